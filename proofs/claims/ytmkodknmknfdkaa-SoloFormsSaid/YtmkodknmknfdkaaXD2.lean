/- Texts of this seat, joined: part 2. -/
import Derived.WalkKit
import Derived.OrdersHeld
import Derived.Lib.MinMax
import Derived.Laws.AppendOwn
import Derived.ProofKit
import Derived.OpenShut
import Derived.ChangeOld
import Derived.Carry
import Derived.Deep.Slices
import Derived.Laws.MakeOwn
import Derived.Lib.SliceRun
import Derived.Test.YtmkodknmknfdkaaRows
import Derived.MapKept
import Derived.Lib.AppendZeros
import Derived.SizedLaws
import Derived.Test.YtmkodknmknfdkaaXD1
set_option linter.unusedVariables false
set_option linter.unusedSimpArgs false
namespace Go.Proofs.Ytmkodknmknfdkaa
open E
set_option maxRecDepth 4000
theorem t22 : tRow Try.prog 22 = some (true, 1, 24, .slice none 0 0) := by kernel_rfl
theorem t24 : tRow Try.prog 24 = some (false, 2, 32, .agg #[.int .i64 0, .slice none 0 0]) := by kernel_rfl
theorem t38 : tRow Try.prog 38 = some (true, 1, 24, .slice none 0 0) := by kernel_rfl
theorem t97 : tRow Try.prog 97 = some (false, 4, 64, .agg #[.int .i64 0, .slice none 0 0, .slice none 0 0, .int .i64 0]) := by kernel_rfl
theorem s24 : sRow Try.prog 24 = some [(0, 1, true), (1, 1, true)] := by kernel_rfl
theorem s97 : sRow Try.prog 97 = some [(0, 2, false), (2, 1, true), (3, 1, true)] := by kernel_rfl
theorem en68 : Enters Try.prog 68 := Enters.mk' Try.func68 rfl rfl
theorem en69 : Enters Try.prog 69 := Enters.mk' Try.func69 rfl rfl
theorem en71 : Enters Try.prog 71 := Enters.mk' Try.func71 rfl rfl
theorem en73 : Enters Try.prog 73 := Enters.mk' Try.func73 rfl rfl
theorem en74 : Enters Try.prog 74 := Enters.mk' Try.func74 rfl rfl
theorem en103 : Enters Try.prog 103 := Enters.mk' Try.func103 rfl rfl
theorem same36 (a b : Tr) : Con Try.prog 36 [a.val, b.val] [ndsP a.ns, psP a.ns.l, ndsP b.ns, psP b.ns.l] [] (fun v Γ M => v = .bool (decide (a.p = b.p)) ∧ Γ = [] ∧ M = []) := by
 refine Con.body 39 Try.func36 rfl Try.ntmps36 rfl fun X H₀ L₀ => ?_
 refine At.lenOf (hs := (ix 1 rfl)) fun ha => ?_
 rw [List.length_map] at ha
 refine At.lenOf (hs := (ix 3 rfl)) fun hb => ?_
 rw [List.length_map] at hb
 refine aE (aR ?_)
 refine At.loud (l_box rfl) rfl ?_
 rintro _ _ _ ⟨b1, rfl, rfl, rfl⟩
 refine At.freeze 0 (φ := blk b1 _) rfl (fun _ h => blk_def.2 ⟨_, _, h⟩) ?_
 refine At.loud (l_box rfl) rfl ?_
 rintro _ _ _ ⟨b2, rfl, rfl, rfl⟩
 refine At.freeze 0 (φ := blk b2 _) rfl (fun _ h => blk_def.2 ⟨_, _, h⟩) ?_
 refine aS 1 rfl rfl ?_
 refine aN (aT (aE (aE (aR ?_))))
 refine aF s24 t3 rfl rfl rfl (Rd.blk (ix 1 rfl) rfl) rfl rfl ?_
 refine aF s24 t3 rfl rfl rfl (Rd.blk (.head _) rfl) rfl rfl ?_
 refine aS 2 rfl rfl ?_
 refine At.splitP (d := 11) rfl (fun hr => ?_) (fun hr => ?_)
 ·
  refine aS 8 rfl rfl ?_
  refine aN (aT ?_)
  refine At.condT rfl ?_
  refine aE (aR ?_)
  refine aS 1 rfl rfl ?_
  refine aN (aT (At.ret (At.thenRet ?_)))
  exact At.results (Γr := []) (M := []) rfl (RVals.cons (RVal.tmp rfl) RVals.nil) (ix 2 rfl) (fun _ _ => trivial) r_ ⟨congrArg Value.bool ((decide_eq_false fun e => hr (congrArg PT.root e)).symm), rfl, rfl⟩
 ·
  refine At.open rfl rfl ?_
  refine aQ (q_fieldAddr s24 rfl rfl rfl) rfl ?_
  refine At.open rfl rfl ?_
  refine aQ (q_load t22 rfl (Rd.blk (ix 1 rfl) rfl)) rfl ?_
  refine At.open rfl rfl ?_
  refine aQ (q_len Try.underlying22 rfl) rfl ?_
  refine At.open rfl rfl ?_
  refine aQ (q_fieldAddr s24 rfl rfl rfl) rfl ?_
  refine At.open rfl rfl ?_
  refine aQ (q_load t22 rfl (Rd.blk (.head _) rfl)) rfl ?_
  refine At.open rfl rfl ?_
  refine aQ (q_len Try.underlying22 rfl) rfl ?_
  refine aS 2 rfl rfl ?_
  refine aN (aT ?_)
  refine At.if rfl (fun hn => ?_) (fun hn => ?_)
  ·
   refine aE (aR ?_)
   refine aS 1 rfl rfl ?_
   refine aN (aT (At.ret (At.thenRet ?_)))
   exact At.results (Γr := []) (M := []) rfl (RVals.cons (RVal.tmp rfl) RVals.nil) (ix 2 rfl) (fun _ _ => trivial) r_ ⟨congrArg Value.bool ((decide_eq_false fun e => (len_ne (by simpa [Tr.p] using hn)) (congrArg PT.ns e)).symm), rfl, rfl⟩
  ·
   have hab : a.ns.l.length = b.ns.l.length := by omega
   refine At.skip (aT (aE (aE (aR ?_))))
   refine aF s24 t22 rfl rfl rfl (Rd.blk (ix 1 rfl) rfl) rfl rfl ?_
   refine aQ (q_len Try.underlying22 rfl) rfl ?_
   refine aS 1 rfl rfl ?_
   refine aN (aT (At.block ?_))
   refine At.loopK (ι := Nat) [4, 5, 23, 24, 25, 26, 27, 28, 29, 30, 31, 32, 33, 34, 35, 36, 37, 38] (fun k => [(23, .int .i64 (k : Int))]) (fun k => []) (fun k => []) _ (fun k => k ≤ a.ns.l.length ∧ (a.ns.l.map Nd.p).take k = (b.ns.l.map Nd.p).take k) (fun k => a.ns.l.length - k) 0 ⟨Nat.zero_le _, by simp⟩ ⟨rfl, trivial⟩ (fun _ _ => trivial) r_ ?_
   intro k hI
   refine aE (aR ?_)
   refine aS 1 rfl rfl ?_
   refine aN (aT (aE ?_))
   refine At.if rfl (fun hk => ?_) (fun hk => ?_)
   ·
    obtain ⟨x, hx⟩ := get_of_lt (l := a.ns.l) (i := k) (by omega)
    obtain ⟨y, hy⟩ := get_of_lt (l := b.ns.l) (i := k) (by omega)
    have hk1 := lt_of_get hx
    refine At.know (prsP x.ps) (fun _ h => psP_get h.2.2.2.2.1 hx) ?_
    refine At.know (prsP y.ps) (fun _ h => psP_get h.2.2.2.2.2.2.2.1 hy) ?_
    refine At.skip (aT (aE (At.block (aE (aR ?_)))))
    refine aS 2 rfl rfl ?_
    refine aN (aT (aE ?_))
    refine At.draw 10 (.q 0 (.q 1 (.q 2 (.q 3 (.q 4 (.q 5 (.q 6 (.q 7 (.q 8 (.q 9 (.e))))))))))) _ (List.Sublist.refl _) mixed (by kernel_rfl) rfl ?_
    refine oQ rfl (q_fieldAddr s24 rfl rfl rfl) rfl (cT (cI (cT (cT (cI (cT cP)))))) ?_
    refine oQ rfl (q_load t22 rfl (Rd.blk (ix 3 rfl) rfl)) rfl (cT (cI (cT (cT (cI (cT cP)))))) ?_
    refine oQ rfl (q_move rfl) rfl (cT (cI (cT (cT (cI (cT cP)))))) ?_
    refine oQ rfl (q_index Try.underlying22 t33 rfl (ix 5 rfl) (by simp) rfl rfl (lt_of_get hx)) rfl (cT (cI (cT (cT (cI (cT cP)))))) ?_
    refine oQ rfl (q_loadS t33 rfl (RdS.sl0 (ix 5 rfl) (map_get hx)) rfl) rfl (cT (cI (cT (cT (cI (cT cP)))))) ?_
    refine oQ rfl (q_fieldAddr s24 rfl rfl rfl) rfl (cT (cI (cT (cT (cI (cT cP)))))) ?_
    refine oQ rfl (q_load t22 rfl (Rd.blk (ix 2 rfl) rfl)) rfl (cT (cI (cT (cT (cI (cT cP)))))) ?_
    refine oQ rfl (q_move rfl) rfl (cT (cI (cT (cT (cI (cT cP)))))) ?_
    refine oQ rfl (q_index Try.underlying22 t33 rfl (ix 7 rfl) (by simp) rfl rfl (lt_of_get hy)) rfl (cT (cI (cT (cT (cI (cT cP)))))) ?_
    refine oQ rfl (q_loadS t33 rfl (RdS.sl0 (ix 7 rfl) (map_get hy)) rfl) rfl (cT (cI (cT (cT (cI (cT cP)))))) ?_
    refine AtO.done ?_
    refine At.call en74 rfl (same74 x y) (fun _ h => ⟨h.2.1, h.1, trivial⟩) (List.Perm.refl _) rfl ?_
    rintro _ _ _ ⟨rfl, rfl, rfl⟩
    refine aS 1 rfl rfl ?_
    refine aN (aT ?_)
    refine At.cond rfl (fun hxy => ?_) (fun hxy => ?_)
    ·
     refine aE (aR ?_)
     refine aS 1 rfl rfl ?_
     refine aN (aT (At.ret (At.inRet (At.thenRet (At.thenRet (At.inRet (At.thenRet ?_)))))))
     exact At.results (Γr := []) (M := []) rfl (RVals.cons (RVal.tmp rfl) RVals.nil) (ix 4 rfl) (fun _ _ => trivial) r_ ⟨congrArg Value.bool ((decide_eq_false fun e => (ne_at (map_get hx) (map_get hy) (by simpa using hxy)) (congrArg PT.ns e)).symm), rfl, rfl⟩
    ·
     refine At.skip (At.inNormal (aT (aR ?_)))
     refine aQ (q_add rfl rfl (by omega) (by omega)) rfl ?_
     refine aS 1 rfl rfl ?_
     refine aN (aT ?_)
     exact At.againK (k + 1) ⟨hk1, take_step (map_get hx) (by rw [show x.p = y.p by simpa using hxy]; exact map_get hy) hI.2⟩ (by (try dsimp only); omega) (Tells.end 18 ⟨rfl, trivial⟩ rfl rfl) (fun _ h => h.2.2) r_
   ·
    refine At.exit (At.thenExit (At.thenExit (At.inHere rfl (aT (aE (aR ?_))))))
    refine aS 1 rfl rfl ?_
    refine aN (aT (At.ret ?_))
    exact At.results (Γr := []) (M := []) rfl (RVals.cons (RVal.tmp rfl) RVals.nil) (ix 2 rfl) (fun _ _ => trivial) r_ ⟨congrArg Value.bool ((decide_eq_true (pt_eq (show a.root = b.root by omega) (eq_of_takes (by simpa [Tr.p] using hab) (by simp [Tr.p]; omega) hI.2))).symm), rfl, rfl⟩
theorem may68_step (t : Tr) (f : Nat) (ih : May68 t f) : May68 t (f + 1) := by
 intro met at_ k b a c Mm hb hO
 refine Con.body 139 Try.func68 rfl Try.ntmps68 rfl fun X H₀ L₀ => ?_
 refine At.lenOf (hs := (ix 1 rfl)) fun hlen => ?_
 rw [List.length_map] at hlen
 refine aE (aR ?_)
 refine At.loud (l_box rfl) rfl ?_
 rintro _ _ _ ⟨b1, rfl, rfl, rfl⟩
 refine At.freeze 0 (φ := blk b1 _) rfl (fun _ h => blk_def.2 ⟨_, _, h⟩) ?_
 refine aS 1 rfl rfl ?_
 refine aN (aT (aE (aE (aR ?_))))
 refine aS 3 rfl rfl ?_
 refine At.splitP (d := 12) rfl (fun hneg => ?_) (fun hneg => ?_)
 ·
  refine aS 18 rfl rfl ?_
  refine aN (aT ?_)
  refine At.condT rfl ?_
  refine aE (aR ?_)
  refine aS 1 rfl rfl ?_
  refine aN (aT (At.ret (At.thenRet ?_)))
  exact At.results (Γr := []) (M := [[(b, .cells #[.int .i64 t.root, t.ns.val, .slice a t.ns.l.length c, .int .i64 ((bits t.ns.l.length met).count true : Nat)] 97 (0, 0))], Mm]) rfl (RVals.cons (RVal.tmp rfl) RVals.nil) (ix 1 rfl) (fun _ _ => trivial) (k_ (k_ r_)) ⟨_, _, congrArg Value.bool (by rw [sh_neg hneg]; rfl), rfl, rfl, .no (sh_neg hneg)⟩
 ·
  obtain ⟨i, rfl⟩ := Int.eq_ofNat_of_zero_le (show 0 ≤ at_ by omega)
  refine aS 3 rfl rfl ?_
  refine At.open rfl rfl ?_
  refine aQ (q_fieldAddr s97 rfl rfl rfl) rfl ?_
  refine At.open rfl rfl ?_
  refine aQ (q_fieldAddr s24 rfl rfl rfl) rfl ?_
  refine At.open rfl rfl ?_
  refine aQ (q_load t22 rfl (Rd.loc (i := 0) rfl rfl)) rfl ?_
  refine At.open rfl rfl ?_
  refine aQ (q_len Try.underlying22 rfl) rfl ?_
  refine aS 3 rfl rfl ?_
  refine At.splitP (d := 22) rfl (fun hout => ?_) (fun hout => ?_)
  ·
   refine aS 8 rfl rfl ?_
   refine aN (aT ?_)
   refine At.condT rfl ?_
   refine aE (aR ?_)
   refine aS 1 rfl rfl ?_
   refine aN (aT (At.ret (At.thenRet ?_)))
   exact At.results (Γr := []) (M := [[(b, .cells #[.int .i64 t.root, t.ns.val, .slice a t.ns.l.length c, .int .i64 ((bits t.ns.l.length met).count true : Nat)] 97 (0, 0))], Mm]) rfl (RVals.cons (RVal.tmp rfl) RVals.nil) (ix 1 rfl) (fun _ _ => trivial) (k_ (k_ r_)) ⟨_, _, congrArg Value.bool (by rw [sh_out (by simp [Tr.p]; omega)]; rfl), rfl, rfl, .no (sh_out (by simp [Tr.p]; omega))⟩
  ·
   have hi : i < t.ns.l.length := by omega
   obtain ⟨x, hx⟩ := get_of_lt hi
   have hxp : t.p.ns[i]? = some x.p := map_get hx
   have hcl := count_le t.ns.l.length met
   refine aS 2 rfl rfl ?_
   refine At.open rfl rfl ?_
   refine aQ (q_fieldAddr s97 rfl rfl rfl) rfl ?_
   refine At.open rfl rfl ?_
   refine aQ (q_load t38 rfl (Rd.loc (i := 0) rfl rfl)) rfl ?_
   refine aS 1 rfl rfl ?_
   refine At.open rfl rfl ?_
   refine aQ (q_indexOwn Try.underlying38 t4 rfl hO (by simp [bits_length]) rfl rfl hi) rfl ?_
   refine At.open rfl rfl ?_
   refine aQ (q_load t4 rfl (Rd.own0 hO (i := 1) rfl (map_get (bits_get hi)) rfl)) rfl ?_
   refine aS 1 rfl rfl ?_
   refine aN (aT ?_)
   refine At.cond rfl (fun hmet => ?_) (fun hmet => ?_)
   ·
    refine aE (aR ?_)
    refine aS 1 rfl rfl ?_
    refine aN (aT (At.ret (At.thenRet ?_)))
    exact At.results (Γr := []) (M := [[(b, .cells #[.int .i64 t.root, t.ns.val, .slice a t.ns.l.length c, .int .i64 ((bits t.ns.l.length met).count true : Nat)] 97 (0, 0))], Mm]) rfl (RVals.cons (RVal.tmp rfl) RVals.nil) (ix 1 rfl) (fun _ _ => trivial) (k_ (k_ r_)) ⟨_, _, congrArg Value.bool (by rw [sh_met hmet]; rfl), rfl, rfl, .no (sh_met hmet)⟩
   ·
    have hcs := count_step hi hmet
    have hcl2 := count_le t.ns.l.length (i :: met)
    refine At.skip (aT (aE (aR ?_)))
    refine aS 2 rfl rfl ?_
    refine aF s97 t38 rfl rfl rfl (Rd.loc (i := 0) rfl rfl) rfl rfl ?_
    refine aS 1 rfl rfl ?_
    refine aQ (q_indexOwn Try.underlying38 t4 rfl hO (by simp [bits_length]) rfl rfl hi) rfl ?_
    refine At.loudN (l_storeOwn0 t4 rfl rfl hO (i := 1) rfl (map_get (bits_get hi)) rfl rfl rfl) ?_
    rintro _ _ _ ⟨Mow1, ow1, rfl, rfl⟩
    refine aN (aT (aE (aR ?_)))
    have hO2 : Own 4 1 ((bits t.ns.l.length (i :: met)).map rowB) a c Mow1 := by rw [← bits_row _ _ _ (met.contains i)]; exact ow1
    refine aS 2 rfl rfl ?_
    refine aF s97 t3 rfl rfl rfl (Rd.loc (i := 0) rfl rfl) rfl rfl ?_
    refine aQ (q_add rfl rfl (by omega) (by omega)) rfl ?_
    refine At.say 41 (.int .i64 ((bits t.ns.l.length (i :: met)).count true : Nat)) rfl (congrArg (Value.int .i64) (by omega)) ?_
    refine At.know (prsP x.ps) (fun _ h => psP_get h.2.2.2.1 hx) ?_
    refine aS 1 rfl rfl ?_
    refine aQ (q_fieldAddr s97 rfl rfl rfl) rfl ?_
    refine At.loudN (l_store t3 rfl rfl (i := 0) rfl rfl rfl rfl) ?_
    rintro _ _ _ ⟨rfl, rfl⟩
    refine aN (aT (aE (aR ?_)))
    refine aS 2 rfl rfl ?_
    refine aQ (q_fieldAddr s97 rfl rfl rfl) rfl ?_
    refine aF s24 t22 rfl rfl rfl (Rd.loc (i := 0) rfl rfl) rfl rfl ?_
    refine aS 1 rfl rfl ?_
    refine aQ (q_index Try.underlying22 t33 rfl (ix 3 rfl) (by simp) rfl rfl (lt_of_get hx)) rfl ?_
    refine aQ (q_loadS t33 rfl (RdS.sl0 (ix 3 rfl) (map_get hx)) rfl) rfl ?_
    refine At.loud (l_alloc t33) rfl ?_
    rintro _ _ _ ⟨b2, rfl, rfl, rfl⟩
    refine At.loudN (l_store t33 rfl rfl (i := 0) rfl rfl rfl rfl) ?_
    rintro _ _ _ ⟨rfl, rfl⟩
    refine aN (aT (aE (aE (aR ?_))))
    refine aF s33 t4 rfl rfl rfl (Rd.loc (i := 0) rfl rfl) rfl rfl ?_
    refine aS 1 rfl rfl ?_
    refine aN (aT ?_)
    refine At.cond rfl (fun hleaf => ?_) (fun hleaf => ?_)
    ·
     refine aE (aR ?_)
     refine aF s33 t3 rfl rfl rfl (Rd.loc (i := 0) rfl rfl) rfl rfl ?_
     refine aS 2 rfl rfl ?_
     refine At.splitP (d := 58) rfl (fun h2 => ?_) (fun h2 => ?_)
     ·
      refine At.open rfl rfl ?_
      refine aQ (q_fieldAddr s33 rfl rfl rfl) rfl ?_
      refine At.open rfl rfl ?_
      refine aQ (q_load t3 rfl (Rd.loc (i := 0) rfl rfl)) rfl ?_
      refine aS 3 rfl rfl ?_
      refine At.splitP (d := 63) rfl (fun h3 => ?_) (fun h3 => ?_)
      ·
       refine At.open rfl rfl ?_
       refine aQ (q_fieldAddr s33 rfl rfl rfl) rfl ?_
       refine At.open rfl rfl ?_
       refine aQ (q_load t3 rfl (Rd.loc (i := 0) rfl rfl)) rfl ?_
       refine aS 3 rfl rfl ?_
       refine At.splitP (d := 68) rfl (fun h4 => ?_) (fun h4 => ?_)
       ·
        refine At.open rfl rfl ?_
        refine aQ (q_fieldAddr s33 rfl rfl rfl) rfl ?_
        refine At.open rfl rfl ?_
        refine aQ (q_load t31 rfl (Rd.loc (i := 0) rfl rfl)) rfl ?_
        refine At.open rfl rfl ?_
        refine At.call en71 rfl (may71 _) (fun _ h => ⟨h.1, trivial⟩) (List.Perm.refl _) rfl ?_
        rintro _ _ _ ⟨rfl, rfl, rfl⟩
        refine aS 2 rfl rfl ?_
        refine At.split (d := 73) rfl (fun h5 => ?_) (fun h5 => ?_)
        ·
         refine At.open rfl rfl ?_
         refine aQ (q_fieldAddr s33 rfl rfl rfl) rfl ?_
         refine At.open rfl rfl ?_
         refine aQ (q_load t3 rfl (Rd.loc (i := 0) rfl rfl)) rfl ?_
         refine aS 3 rfl rfl ?_
         refine At.splitP (d := 78) rfl (fun h6 => ?_) (fun h6 => ?_)
         ·
          refine At.open rfl rfl ?_
          refine aQ (q_fieldAddr s33 rfl rfl rfl) rfl ?_
          refine At.open rfl rfl ?_
          refine aQ (q_load t3 rfl (Rd.loc (i := 0) rfl rfl)) rfl ?_
          refine aS 3 rfl rfl ?_
          refine At.splitP (d := 83) rfl (fun h7 => ?_) (fun h7 => ?_)
          ·
           refine At.open rfl rfl ?_
           refine aQ (q_fieldAddr s33 rfl rfl rfl) rfl ?_
           refine At.open rfl rfl ?_
           refine aQ (q_load t31 rfl (Rd.loc (i := 0) rfl rfl)) rfl ?_
           refine At.open rfl rfl ?_
           refine aQ (q_makeFunc rfl rfl) rfl ?_
           refine At.open rfl rfl ?_
           refine At.call en103 rfl (some103 _ 104 [_] (fun p => !k.has p.k) _ en104 (fun y => out104 k y b1)) (fun _ h => ⟨h.1, h.2.1, trivial⟩) (List.Perm.refl _) rfl ?_
           rintro _ _ _ ⟨rfl, rfl, rfl⟩
           refine aS 3 rfl rfl ?_
           refine aN (aT (At.ret (At.thenRet ?_)))
           exact At.results (Γr := []) (M := [[(b, .cells #[.int .i64 t.root, t.ns.val, .slice a t.ns.l.length c, .int .i64 ((bits t.ns.l.length (i :: met)).count true : Nat)] 97 (0, 0))], _]) rfl (RVals.cons (RVal.tmp rfl) RVals.nil) (ix 2 rfl) (fun _ _ => trivial) (d_ (k_ (k_ r_))) ⟨_, _, congrArg Value.bool (by rw [sh_leaf hxp hmet (by simpa [Nd.p] using hleaf), isSome_ite]; simp [leafOk, Nd.p, any_not, hneg, hout, hmet, hleaf, h2, h3, h4, h5, h6, h7] <;> omega), rfl, rfl, .leaf (sh_leaf hxp hmet (by simpa [Nd.p] using hleaf)) hO2⟩
          ·
           refine aS 7 rfl rfl ?_
           refine aN (aT (At.ret (At.thenRet ?_)))
           exact At.results (Γr := []) (M := [[(b, .cells #[.int .i64 t.root, t.ns.val, .slice a t.ns.l.length c, .int .i64 ((bits t.ns.l.length (i :: met)).count true : Nat)] 97 (0, 0))], _]) rfl (RVals.cons (RVal.tmp rfl) RVals.nil) (ix 2 rfl) (fun _ _ => trivial) (d_ (k_ (k_ r_))) ⟨_, _, congrArg Value.bool (by rw [sh_leaf hxp hmet (by simpa [Nd.p] using hleaf), isSome_ite]; simp [leafOk, Nd.p, any_not, hneg, hout, hmet, hleaf, h2, h3, h4, h5, h6, h7] <;> omega), rfl, rfl, .leaf (sh_leaf hxp hmet (by simpa [Nd.p] using hleaf)) hO2⟩
         ·
          refine aS 12 rfl rfl ?_
          refine aN (aT (At.ret (At.thenRet ?_)))
          exact At.results (Γr := []) (M := [[(b, .cells #[.int .i64 t.root, t.ns.val, .slice a t.ns.l.length c, .int .i64 ((bits t.ns.l.length (i :: met)).count true : Nat)] 97 (0, 0))], _]) rfl (RVals.cons (RVal.tmp rfl) RVals.nil) (ix 2 rfl) (fun _ _ => trivial) (d_ (k_ (k_ r_))) ⟨_, _, congrArg Value.bool (by rw [sh_leaf hxp hmet (by simpa [Nd.p] using hleaf), isSome_ite]; simp [leafOk, Nd.p, any_not, hneg, hout, hmet, hleaf, h2, h3, h4, h5, h6] <;> omega), rfl, rfl, .leaf (sh_leaf hxp hmet (by simpa [Nd.p] using hleaf)) hO2⟩
        ·
         refine aS 17 rfl rfl ?_
         refine aN (aT (At.ret (At.thenRet ?_)))
         exact At.results (Γr := []) (M := [[(b, .cells #[.int .i64 t.root, t.ns.val, .slice a t.ns.l.length c, .int .i64 ((bits t.ns.l.length (i :: met)).count true : Nat)] 97 (0, 0))], _]) rfl (RVals.cons (RVal.tmp rfl) RVals.nil) (ix 2 rfl) (fun _ _ => trivial) (d_ (k_ (k_ r_))) ⟨_, _, congrArg Value.bool (by rw [sh_leaf hxp hmet (by simpa [Nd.p] using hleaf), isSome_ite]; simp [leafOk, Nd.p, any_not, hneg, hout, hmet, hleaf, h2, h3, h4, h5] <;> omega), rfl, rfl, .leaf (sh_leaf hxp hmet (by simpa [Nd.p] using hleaf)) hO2⟩
       ·
        refine aS 22 rfl rfl ?_
        refine aN (aT (At.ret (At.thenRet ?_)))
        exact At.results (Γr := []) (M := [[(b, .cells #[.int .i64 t.root, t.ns.val, .slice a t.ns.l.length c, .int .i64 ((bits t.ns.l.length (i :: met)).count true : Nat)] 97 (0, 0))], _]) rfl (RVals.cons (RVal.tmp rfl) RVals.nil) (ix 2 rfl) (fun _ _ => trivial) (d_ (k_ (k_ r_))) ⟨_, _, congrArg Value.bool (by rw [sh_leaf hxp hmet (by simpa [Nd.p] using hleaf), isSome_ite]; simp [leafOk, Nd.p, any_not, hneg, hout, hmet, hleaf, h2, h3, h4] <;> omega), rfl, rfl, .leaf (sh_leaf hxp hmet (by simpa [Nd.p] using hleaf)) hO2⟩
      ·
       refine aS 27 rfl rfl ?_
       refine aN (aT (At.ret (At.thenRet ?_)))
       exact At.results (Γr := []) (M := [[(b, .cells #[.int .i64 t.root, t.ns.val, .slice a t.ns.l.length c, .int .i64 ((bits t.ns.l.length (i :: met)).count true : Nat)] 97 (0, 0))], _]) rfl (RVals.cons (RVal.tmp rfl) RVals.nil) (ix 2 rfl) (fun _ _ => trivial) (d_ (k_ (k_ r_))) ⟨_, _, congrArg Value.bool (by rw [sh_leaf hxp hmet (by simpa [Nd.p] using hleaf), isSome_ite]; simp [leafOk, Nd.p, any_not, hneg, hout, hmet, hleaf, h2, h3] <;> omega), rfl, rfl, .leaf (sh_leaf hxp hmet (by simpa [Nd.p] using hleaf)) hO2⟩
     ·
      refine aS 32 rfl rfl ?_
      refine aN (aT (At.ret (At.thenRet ?_)))
      exact At.results (Γr := []) (M := [[(b, .cells #[.int .i64 t.root, t.ns.val, .slice a t.ns.l.length c, .int .i64 ((bits t.ns.l.length (i :: met)).count true : Nat)] 97 (0, 0))], _]) rfl (RVals.cons (RVal.tmp rfl) RVals.nil) (ix 2 rfl) (fun _ _ => trivial) (d_ (k_ (k_ r_))) ⟨_, _, congrArg Value.bool (by rw [sh_leaf hxp hmet (by simpa [Nd.p] using hleaf), isSome_ite]; simp [leafOk, Nd.p, any_not, hneg, hout, hmet, hleaf, h2] <;> omega), rfl, rfl, .leaf (sh_leaf hxp hmet (by simpa [Nd.p] using hleaf)) hO2⟩
    ·
     have hroute : x.p.route = true := by simpa [Nd.p] using hleaf
     refine At.skip (aT (aE (aE (aR ?_))))
     refine aF s33 t31 rfl rfl rfl (Rd.loc (i := 0) rfl rfl) rfl rfl ?_
     refine aQ (q_len Try.underlying31 rfl) rfl ?_
     refine aS 2 rfl rfl ?_
     refine At.splitP (d := 94) rfl (fun hlen0 => ?_) (fun hlen0 => ?_)
     ·
      refine aS 22 rfl rfl ?_
      refine aN (aT ?_)
      refine At.condT rfl ?_
      refine aE (aR ?_)
      refine aS 1 rfl rfl ?_
      refine aN (aT (At.ret (At.thenRet ?_)))
      exact At.results (Γr := []) (M := [[(b, .cells #[.int .i64 t.root, t.ns.val, .slice a t.ns.l.length c, .int .i64 ((bits t.ns.l.length (i :: met)).count true : Nat)] 97 (0, 0))], _]) rfl (RVals.cons (RVal.tmp rfl) RVals.nil) (ix 2 rfl) (fun _ _ => trivial) (d_ (k_ (k_ r_))) ⟨_, _, congrArg Value.bool (by rw [sh_bad hxp hroute (by cases hps : x.ps.l <;> simp_all [routeOk, Nd.p])]; rfl), rfl, rfl, .no (sh_bad hxp hroute (by cases hps : x.ps.l <;> simp_all [routeOk, Nd.p]))⟩
     ·
      refine At.open rfl rfl ?_
      refine aQ (q_fieldAddr s33 rfl rfl rfl) rfl ?_
      refine At.open rfl rfl ?_
      refine aQ (q_load t3 rfl (Rd.loc (i := 0) rfl rfl)) rfl ?_
      refine aS 3 rfl rfl ?_
      refine At.splitP (d := 99) rfl (fun hstat => ?_) (fun hstat => ?_)
      ·
       refine aS 17 rfl rfl ?_
       refine aN (aT ?_)
       refine At.condT rfl ?_
       refine aE (aR ?_)
       refine aS 1 rfl rfl ?_
       refine aN (aT (At.ret (At.thenRet ?_)))
       exact At.results (Γr := []) (M := [[(b, .cells #[.int .i64 t.root, t.ns.val, .slice a t.ns.l.length c, .int .i64 ((bits t.ns.l.length (i :: met)).count true : Nat)] 97 (0, 0))], _]) rfl (RVals.cons (RVal.tmp rfl) RVals.nil) (ix 2 rfl) (fun _ _ => trivial) (d_ (k_ (k_ r_))) ⟨_, _, congrArg Value.bool (by rw [sh_bad hxp hroute (by simp_all [routeOk, Nd.p])]; rfl), rfl, rfl, .no (sh_bad hxp hroute (by simp_all [routeOk, Nd.p]))⟩
      ·
       refine At.open rfl rfl ?_
       refine aQ (q_loadS t100 rfl (RdS.blk (ix 1 rfl) (m := 4) rfl) rfl) rfl ?_
       refine At.open rfl rfl ?_
       refine aQ (q_fieldAddr s33 rfl rfl rfl) rfl ?_
       refine At.open rfl rfl ?_
       refine aQ (q_load t3 rfl (Rd.loc (i := 0) rfl rfl)) rfl ?_
       refine At.open rfl rfl ?_
       refine At.call en105 rfl (has105 _ _) (fun _ _ => trivial) (List.Perm.refl _) rfl ?_
       rintro _ _ _ ⟨rfl, rfl, rfl⟩
       refine aS 3 rfl rfl ?_
       refine At.split (d := 106) rfl (fun hhas => ?_) (fun hhas => ?_)
       ·
        refine aS 10 rfl rfl ?_
        refine aN (aT ?_)
        refine At.condT rfl ?_
        refine aE (aR ?_)
        refine aS 1 rfl rfl ?_
        refine aN (aT (At.ret (At.thenRet ?_)))
        exact At.results (Γr := []) (M := [[(b, .cells #[.int .i64 t.root, t.ns.val, .slice a t.ns.l.length c, .int .i64 ((bits t.ns.l.length (i :: met)).count true : Nat)] 97 (0, 0))], _]) rfl (RVals.cons (RVal.tmp rfl) RVals.nil) (ix 2 rfl) (fun _ _ => trivial) (d_ (k_ (k_ r_))) ⟨_, _, congrArg Value.bool (by rw [sh_bad hxp hroute (by simp_all [routeOk, Nd.p])]; rfl), rfl, rfl, .no (sh_bad hxp hroute (by simp_all [routeOk, Nd.p]))⟩
       ·
        refine At.open rfl rfl ?_
        refine aQ (q_fieldAddr s100 rfl rfl rfl) rfl ?_
        refine At.open rfl rfl ?_
        refine aQ (q_load t4 rfl (Rd.blk (ix 1 rfl) rfl)) rfl ?_
        refine aS 1 rfl rfl ?_
        refine At.split (d := 109) rfl (fun hil => ?_) (fun hil => ?_)
        ·
         refine At.open rfl rfl ?_
         refine aQ (q_fieldAddr s33 rfl rfl rfl) rfl ?_
         refine At.open rfl rfl ?_
         refine aQ (q_load t3 rfl (Rd.loc (i := 0) rfl rfl)) rfl ?_
         refine At.open rfl rfl ?_
         refine aQ (q_fieldAddr s100 rfl rfl rfl) rfl ?_
         refine At.open rfl rfl ?_
         refine aQ (q_load t3 rfl (Rd.blk (ix 1 rfl) rfl)) rfl ?_
         refine aS 3 rfl rfl ?_
         refine aN (aT ?_)
         refine At.if rfl (fun hkl => ?_) (fun hkl => ?_)
         ·
          refine aE (aR ?_)
          refine aS 1 rfl rfl ?_
          refine aN (aT (At.ret (At.thenRet ?_)))
          exact At.results (Γr := []) (M := [[(b, .cells #[.int .i64 t.root, t.ns.val, .slice a t.ns.l.length c, .int .i64 ((bits t.ns.l.length (i :: met)).count true : Nat)] 97 (0, 0))], _]) rfl (RVals.cons (RVal.tmp rfl) RVals.nil) (ix 2 rfl) (fun _ _ => trivial) (d_ (k_ (k_ r_))) ⟨_, _, congrArg Value.bool (by rw [sh_bad hxp hroute (by simp_all [routeOk, Nd.p])]; rfl), rfl, rfl, .no (sh_bad hxp hroute (by simp_all [routeOk, Nd.p]))⟩
         ·
          have hgood : routeOk x.p k = true := by simp_all [routeOk, Nd.p]
          have hfull := count_more
          refine At.skip (aT (aE ?_))
          refine At.draw 5 (.q 0 (.q 1 (.t 2 (.o 3 (.o 4 (.e))) 3 (.o 2 (.o 4 (.e)))))) _ (List.Sublist.refl _) mixed (by kernel_rfl) rfl ?_
          refine oQ rfl (q_loadS t100 rfl (RdS.blk (ix 1 rfl) (m := 4) rfl) rfl) rfl (cT cP) ?_
          refine oQ rfl (q_loadS t100 rfl (RdS.blk (ix 1 rfl) (m := 4) rfl) rfl) rfl (cT cP) ?_
          refine AtO.two ?_ ?_
          ·
           refine AtO.loud rfl (l_alloc t100) rfl (by rintro _ _ _ ⟨_, rfl, rfl, rfl⟩; exact ⟨fun _ h => h, d_ r_⟩) ?_
           rintro _ _ _ ⟨b3, rfl, rfl, rfl⟩
           refine AtO.loud rfl (l_alloc t100) rfl (by rintro _ _ _ ⟨_, rfl, rfl, rfl⟩; exact ⟨fun _ h => h, d_ (d_ (k_ (k_ (k_ r_))))⟩) ?_
           rintro _ _ _ ⟨b4, rfl, rfl, rfl⟩
           refine AtO.loudNA rfl (l_store t100 rfl rfl (i := 1) rfl rfl rfl rfl) (by rintro _ _ _ ⟨rfl, rfl⟩; exact ⟨fun _ h => h, (d_ (d_ (k_ (k_ (k_ r_)))))⟩) ?_
           rintro _ _ _ ⟨rfl, rfl⟩
           refine AtO.done ?_
           refine At.loudN (l_store t100 rfl rfl (i := 0) rfl rfl rfl rfl) ?_
           rintro _ _ _ ⟨rfl, rfl⟩
           refine aN (aT (aE (aR ?_)))
           refine aF s33 t3 rfl rfl rfl (Rd.loc (i := 2) rfl rfl) rfl rfl ?_
           refine aQ (q_fieldAddr s100 rfl rfl rfl) rfl ?_
           refine At.loudN (l_store t3 rfl rfl (i := 1) rfl rfl rfl rfl) ?_
           rintro _ _ _ ⟨rfl, rfl⟩
           refine aQ (q_fieldAddr s100 rfl rfl rfl) rfl ?_
           refine At.loudN (l_store t4 rfl rfl (i := 1) rfl rfl rfl rfl) ?_
           rintro _ _ _ ⟨rfl, rfl⟩
           refine aN (aT (aE (aR ?_)))
           refine aF s33 t3 rfl rfl rfl (Rd.loc (i := 2) rfl rfl) rfl rfl ?_
           refine aQ (q_fieldAddr s100 rfl rfl rfl) rfl ?_
           refine At.loudN (l_store t3 rfl rfl (i := 0) rfl rfl rfl rfl) ?_
           rintro _ _ _ ⟨rfl, rfl⟩
           refine aQ (q_fieldAddr s100 rfl rfl rfl) rfl ?_
           refine At.loudN (l_store t4 rfl rfl (i := 0) rfl rfl rfl rfl) ?_
           rintro _ _ _ ⟨rfl, rfl⟩
           refine aN (aT (aE (aR ?_)))
           refine aS 1 rfl rfl ?_
           refine aF s33 t3 rfl rfl rfl (Rd.loc (i := 2) rfl rfl) rfl rfl ?_
           refine aQ (q_loadS t100 rfl (RdS.loc (i := 1) rfl (m := 4) rfl) rfl) rfl ?_
           refine At.front 4 rfl ?_
           refine At.front 4 rfl ?_
           refine At.call en68 rfl (ih (i :: met) x.left (k.lefts x.key) b a c _ (by omega) hO2) (fun _ h => ⟨h.2.2.2.1, h.2.2.2.2.1, trivial⟩) (List.Perm.refl _) rfl ?_
           rintro _ _ _ ⟨n1, m2, rfl, rfl, rfl, he1⟩
           refine aS 1 rfl rfl ?_
           refine At.split (d := 132) rfl (fun hl => ?_) (fun hl => ?_)
           ·
            obtain ⟨s1, hs1⟩ := Option.isSome_iff_exists.1 hl
            obtain ⟨rfl, hO3⟩ := he1 s1 hs1
            have hcm := count_more t.ns.l.length s1.places (i :: met)
            refine aS 1 rfl rfl ?_
            refine At.open rfl rfl ?_
            refine aQ (q_fieldAddr s33 rfl rfl rfl) rfl ?_
            refine At.open rfl rfl ?_
            refine aQ (q_load t3 rfl (Rd.loc (i := 4) rfl rfl)) rfl ?_
            refine At.open rfl rfl ?_
            refine aQ (q_loadS t100 rfl (RdS.loc (i := 2) rfl (m := 4) rfl) rfl) rfl ?_
            refine At.open rfl rfl ?_
            refine At.front 1 rfl ?_
            refine At.front 1 rfl ?_
            refine At.call en68 rfl (ih (s1.places ++ i :: met) x.right (k.rights x.key) b a c _ (by omega) hO3) (fun _ h => ⟨h.2.2.2.1, h.2.2.2.2.1, trivial⟩) (List.Perm.refl _) rfl ?_
            rintro _ _ _ ⟨n2, m3, rfl, rfl, rfl, he2⟩
            refine aS 2 rfl rfl ?_
            refine aN (aT (At.ret ?_))
            exact At.results (Γr := []) (M := [[(b, .cells #[.int .i64 t.root, t.ns.val, .slice a t.ns.l.length c, .int .i64 n2] 97 (0, 0))], m3]) rfl (RVals.cons (RVal.tmp rfl) RVals.nil) (ix 2 rfl) (fun _ _ => trivial) (k_ (k_ (d_ (d_ (d_ r_))))) ⟨_, _, congrArg Value.bool (by rw [sh_right hxp hmet hroute hgood hs1, isSome_map]; rfl), rfl, rfl, .node (sh_right hxp hmet hroute hgood hs1) he2⟩
           ·
            have hs1 : shape t.p.ns f (i :: met) x.p.left (k.lefts x.p.key) = none := none_of hl
            refine aS 7 rfl rfl ?_
            refine aN (aT (At.ret ?_))
            exact At.results (Γr := []) (M := [[(b, .cells #[.int .i64 t.root, t.ns.val, .slice a t.ns.l.length c, .int .i64 n1] 97 (0, 0))], m2]) rfl (RVals.cons (RVal.tmp rfl) RVals.nil) (ix 2 rfl) (fun _ _ => trivial) (k_ (k_ (d_ (d_ (d_ r_))))) ⟨_, _, congrArg Value.bool (by rw [sh_left hxp hroute hgood hs1]; rfl), rfl, rfl, .no (sh_left hxp hroute hgood hs1)⟩
          ·
           refine AtO.loud rfl (l_alloc t100) rfl (by rintro _ _ _ ⟨_, rfl, rfl, rfl⟩; exact ⟨fun _ h => h, d_ r_⟩) ?_
           rintro _ _ _ ⟨b5, rfl, rfl, rfl⟩
           refine AtO.loud rfl (l_alloc t100) rfl (by rintro _ _ _ ⟨_, rfl, rfl, rfl⟩; exact ⟨fun _ h => h, d_ (d_ (k_ (k_ (k_ r_))))⟩) ?_
           rintro _ _ _ ⟨b6, rfl, rfl, rfl⟩
           refine AtO.loudNA rfl (l_store t100 rfl rfl (i := 0) rfl rfl rfl rfl) (by rintro _ _ _ ⟨rfl, rfl⟩; exact ⟨fun _ h => h, (d_ (d_ (k_ (k_ (k_ r_)))))⟩) ?_
           rintro _ _ _ ⟨rfl, rfl⟩
           refine AtO.done ?_
           refine At.loudN (l_store t100 rfl rfl (i := 1) rfl rfl rfl rfl) ?_
           rintro _ _ _ ⟨rfl, rfl⟩
           refine aN (aT (aE (aR ?_)))
           refine aF s33 t3 rfl rfl rfl (Rd.loc (i := 2) rfl rfl) rfl rfl ?_
           refine aQ (q_fieldAddr s100 rfl rfl rfl) rfl ?_
           refine At.loudN (l_store t3 rfl rfl (i := 0) rfl rfl rfl rfl) ?_
           rintro _ _ _ ⟨rfl, rfl⟩
           refine aQ (q_fieldAddr s100 rfl rfl rfl) rfl ?_
           refine At.loudN (l_store t4 rfl rfl (i := 0) rfl rfl rfl rfl) ?_
           rintro _ _ _ ⟨rfl, rfl⟩
           refine aN (aT (aE (aR ?_)))
           refine aF s33 t3 rfl rfl rfl (Rd.loc (i := 2) rfl rfl) rfl rfl ?_
           refine aQ (q_fieldAddr s100 rfl rfl rfl) rfl ?_
           refine At.loudN (l_store t3 rfl rfl (i := 1) rfl rfl rfl rfl) ?_
           rintro _ _ _ ⟨rfl, rfl⟩
           refine aQ (q_fieldAddr s100 rfl rfl rfl) rfl ?_
           refine At.loudN (l_store t4 rfl rfl (i := 1) rfl rfl rfl rfl) ?_
           rintro _ _ _ ⟨rfl, rfl⟩
           refine aN (aT (aE (aR ?_)))
           refine aS 1 rfl rfl ?_
           refine aF s33 t3 rfl rfl rfl (Rd.loc (i := 2) rfl rfl) rfl rfl ?_
           refine aQ (q_loadS t100 rfl (RdS.loc (i := 0) rfl (m := 4) rfl) rfl) rfl ?_
           refine At.front 4 rfl ?_
           refine At.front 4 rfl ?_
           refine At.call en68 rfl (ih (i :: met) x.left (k.lefts x.key) b a c _ (by omega) hO2) (fun _ h => ⟨h.2.2.2.1, h.2.2.2.2.1, trivial⟩) (List.Perm.refl _) rfl ?_
           rintro _ _ _ ⟨n1, m2, rfl, rfl, rfl, he1⟩
           refine aS 1 rfl rfl ?_
           refine At.split (d := 132) rfl (fun hl => ?_) (fun hl => ?_)
           ·
            obtain ⟨s1, hs1⟩ := Option.isSome_iff_exists.1 hl
            obtain ⟨rfl, hO3⟩ := he1 s1 hs1
            have hcm := count_more t.ns.l.length s1.places (i :: met)
            refine aS 1 rfl rfl ?_
            refine At.open rfl rfl ?_
            refine aQ (q_fieldAddr s33 rfl rfl rfl) rfl ?_
            refine At.open rfl rfl ?_
            refine aQ (q_load t3 rfl (Rd.loc (i := 4) rfl rfl)) rfl ?_
            refine At.open rfl rfl ?_
            refine aQ (q_loadS t100 rfl (RdS.loc (i := 3) rfl (m := 4) rfl) rfl) rfl ?_
            refine At.open rfl rfl ?_
            refine At.front 1 rfl ?_
            refine At.front 1 rfl ?_
            refine At.call en68 rfl (ih (s1.places ++ i :: met) x.right (k.rights x.key) b a c _ (by omega) hO3) (fun _ h => ⟨h.2.2.2.1, h.2.2.2.2.1, trivial⟩) (List.Perm.refl _) rfl ?_
            rintro _ _ _ ⟨n2, m3, rfl, rfl, rfl, he2⟩
            refine aS 2 rfl rfl ?_
            refine aN (aT (At.ret ?_))
            exact At.results (Γr := []) (M := [[(b, .cells #[.int .i64 t.root, t.ns.val, .slice a t.ns.l.length c, .int .i64 n2] 97 (0, 0))], m3]) rfl (RVals.cons (RVal.tmp rfl) RVals.nil) (ix 2 rfl) (fun _ _ => trivial) (k_ (k_ (d_ (d_ (d_ r_))))) ⟨_, _, congrArg Value.bool (by rw [sh_right hxp hmet hroute hgood hs1, isSome_map]; rfl), rfl, rfl, .node (sh_right hxp hmet hroute hgood hs1) he2⟩
           ·
            have hs1 : shape t.p.ns f (i :: met) x.p.left (k.lefts x.p.key) = none := none_of hl
            refine aS 7 rfl rfl ?_
            refine aN (aT (At.ret ?_))
            exact At.results (Γr := []) (M := [[(b, .cells #[.int .i64 t.root, t.ns.val, .slice a t.ns.l.length c, .int .i64 n1] 97 (0, 0))], m2]) rfl (RVals.cons (RVal.tmp rfl) RVals.nil) (ix 2 rfl) (fun _ _ => trivial) (k_ (k_ (d_ (d_ (d_ r_))))) ⟨_, _, congrArg Value.bool (by rw [sh_left hxp hroute hgood hs1]; rfl), rfl, rfl, .no (sh_left hxp hroute hgood hs1)⟩
        ·
         have hgood : routeOk x.p k = true := by simp_all [routeOk, Nd.p]
         have hfull := count_more
         refine aS 7 rfl rfl ?_
         refine aN (aT ?_)
         refine At.condF rfl ?_
         refine At.skip (aT (aE ?_))
         refine At.draw 5 (.q 0 (.q 1 (.t 2 (.o 3 (.o 4 (.e))) 3 (.o 2 (.o 4 (.e)))))) _ (List.Sublist.refl _) mixed (by kernel_rfl) rfl ?_
         refine oQ rfl (q_loadS t100 rfl (RdS.blk (ix 1 rfl) (m := 4) rfl) rfl) rfl (cT cP) ?_
         refine oQ rfl (q_loadS t100 rfl (RdS.blk (ix 1 rfl) (m := 4) rfl) rfl) rfl (cT cP) ?_
         refine AtO.two ?_ ?_
         ·
          refine AtO.loud rfl (l_alloc t100) rfl (by rintro _ _ _ ⟨_, rfl, rfl, rfl⟩; exact ⟨fun _ h => h, d_ r_⟩) ?_
          rintro _ _ _ ⟨b7, rfl, rfl, rfl⟩
          refine AtO.loud rfl (l_alloc t100) rfl (by rintro _ _ _ ⟨_, rfl, rfl, rfl⟩; exact ⟨fun _ h => h, d_ (d_ (k_ (k_ (k_ r_))))⟩) ?_
          rintro _ _ _ ⟨b8, rfl, rfl, rfl⟩
          refine AtO.loudNA rfl (l_store t100 rfl rfl (i := 1) rfl rfl rfl rfl) (by rintro _ _ _ ⟨rfl, rfl⟩; exact ⟨fun _ h => h, (d_ (d_ (k_ (k_ (k_ r_)))))⟩) ?_
          rintro _ _ _ ⟨rfl, rfl⟩
          refine AtO.done ?_
          refine At.loudN (l_store t100 rfl rfl (i := 0) rfl rfl rfl rfl) ?_
          rintro _ _ _ ⟨rfl, rfl⟩
          refine aN (aT (aE (aR ?_)))
          refine aF s33 t3 rfl rfl rfl (Rd.loc (i := 2) rfl rfl) rfl rfl ?_
          refine aQ (q_fieldAddr s100 rfl rfl rfl) rfl ?_
          refine At.loudN (l_store t3 rfl rfl (i := 1) rfl rfl rfl rfl) ?_
          rintro _ _ _ ⟨rfl, rfl⟩
          refine aQ (q_fieldAddr s100 rfl rfl rfl) rfl ?_
          refine At.loudN (l_store t4 rfl rfl (i := 1) rfl rfl rfl rfl) ?_
          rintro _ _ _ ⟨rfl, rfl⟩
          refine aN (aT (aE (aR ?_)))
          refine aF s33 t3 rfl rfl rfl (Rd.loc (i := 2) rfl rfl) rfl rfl ?_
          refine aQ (q_fieldAddr s100 rfl rfl rfl) rfl ?_
          refine At.loudN (l_store t3 rfl rfl (i := 0) rfl rfl rfl rfl) ?_
          rintro _ _ _ ⟨rfl, rfl⟩
          refine aQ (q_fieldAddr s100 rfl rfl rfl) rfl ?_
          refine At.loudN (l_store t4 rfl rfl (i := 0) rfl rfl rfl rfl) ?_
          rintro _ _ _ ⟨rfl, rfl⟩
          refine aN (aT (aE (aR ?_)))
          refine aS 1 rfl rfl ?_
          refine aF s33 t3 rfl rfl rfl (Rd.loc (i := 2) rfl rfl) rfl rfl ?_
          refine aQ (q_loadS t100 rfl (RdS.loc (i := 1) rfl (m := 4) rfl) rfl) rfl ?_
          refine At.front 4 rfl ?_
          refine At.front 4 rfl ?_
          refine At.call en68 rfl (ih (i :: met) x.left (k.lefts x.key) b a c _ (by omega) hO2) (fun _ h => ⟨h.2.2.2.1, h.2.2.2.2.1, trivial⟩) (List.Perm.refl _) rfl ?_
          rintro _ _ _ ⟨n1, m2, rfl, rfl, rfl, he1⟩
          refine aS 1 rfl rfl ?_
          refine At.split (d := 132) rfl (fun hl => ?_) (fun hl => ?_)
          ·
           obtain ⟨s1, hs1⟩ := Option.isSome_iff_exists.1 hl
           obtain ⟨rfl, hO3⟩ := he1 s1 hs1
           have hcm := count_more t.ns.l.length s1.places (i :: met)
           refine aS 1 rfl rfl ?_
           refine At.open rfl rfl ?_
           refine aQ (q_fieldAddr s33 rfl rfl rfl) rfl ?_
           refine At.open rfl rfl ?_
           refine aQ (q_load t3 rfl (Rd.loc (i := 4) rfl rfl)) rfl ?_
           refine At.open rfl rfl ?_
           refine aQ (q_loadS t100 rfl (RdS.loc (i := 2) rfl (m := 4) rfl) rfl) rfl ?_
           refine At.open rfl rfl ?_
           refine At.front 1 rfl ?_
           refine At.front 1 rfl ?_
           refine At.call en68 rfl (ih (s1.places ++ i :: met) x.right (k.rights x.key) b a c _ (by omega) hO3) (fun _ h => ⟨h.2.2.2.1, h.2.2.2.2.1, trivial⟩) (List.Perm.refl _) rfl ?_
           rintro _ _ _ ⟨n2, m3, rfl, rfl, rfl, he2⟩
           refine aS 2 rfl rfl ?_
           refine aN (aT (At.ret ?_))
           exact At.results (Γr := []) (M := [[(b, .cells #[.int .i64 t.root, t.ns.val, .slice a t.ns.l.length c, .int .i64 n2] 97 (0, 0))], m3]) rfl (RVals.cons (RVal.tmp rfl) RVals.nil) (ix 2 rfl) (fun _ _ => trivial) (k_ (k_ (d_ (d_ (d_ r_))))) ⟨_, _, congrArg Value.bool (by rw [sh_right hxp hmet hroute hgood hs1, isSome_map]; rfl), rfl, rfl, .node (sh_right hxp hmet hroute hgood hs1) he2⟩
          ·
           have hs1 : shape t.p.ns f (i :: met) x.p.left (k.lefts x.p.key) = none := none_of hl
           refine aS 7 rfl rfl ?_
           refine aN (aT (At.ret ?_))
           exact At.results (Γr := []) (M := [[(b, .cells #[.int .i64 t.root, t.ns.val, .slice a t.ns.l.length c, .int .i64 n1] 97 (0, 0))], m2]) rfl (RVals.cons (RVal.tmp rfl) RVals.nil) (ix 2 rfl) (fun _ _ => trivial) (k_ (k_ (d_ (d_ (d_ r_))))) ⟨_, _, congrArg Value.bool (by rw [sh_left hxp hroute hgood hs1]; rfl), rfl, rfl, .no (sh_left hxp hroute hgood hs1)⟩
         ·
          refine AtO.loud rfl (l_alloc t100) rfl (by rintro _ _ _ ⟨_, rfl, rfl, rfl⟩; exact ⟨fun _ h => h, d_ r_⟩) ?_
          rintro _ _ _ ⟨b9, rfl, rfl, rfl⟩
          refine AtO.loud rfl (l_alloc t100) rfl (by rintro _ _ _ ⟨_, rfl, rfl, rfl⟩; exact ⟨fun _ h => h, d_ (d_ (k_ (k_ (k_ r_))))⟩) ?_
          rintro _ _ _ ⟨b10, rfl, rfl, rfl⟩
          refine AtO.loudNA rfl (l_store t100 rfl rfl (i := 0) rfl rfl rfl rfl) (by rintro _ _ _ ⟨rfl, rfl⟩; exact ⟨fun _ h => h, (d_ (d_ (k_ (k_ (k_ r_)))))⟩) ?_
          rintro _ _ _ ⟨rfl, rfl⟩
          refine AtO.done ?_
          refine At.loudN (l_store t100 rfl rfl (i := 1) rfl rfl rfl rfl) ?_
          rintro _ _ _ ⟨rfl, rfl⟩
          refine aN (aT (aE (aR ?_)))
          refine aF s33 t3 rfl rfl rfl (Rd.loc (i := 2) rfl rfl) rfl rfl ?_
          refine aQ (q_fieldAddr s100 rfl rfl rfl) rfl ?_
          refine At.loudN (l_store t3 rfl rfl (i := 0) rfl rfl rfl rfl) ?_
          rintro _ _ _ ⟨rfl, rfl⟩
          refine aQ (q_fieldAddr s100 rfl rfl rfl) rfl ?_
          refine At.loudN (l_store t4 rfl rfl (i := 0) rfl rfl rfl rfl) ?_
          rintro _ _ _ ⟨rfl, rfl⟩
          refine aN (aT (aE (aR ?_)))
          refine aF s33 t3 rfl rfl rfl (Rd.loc (i := 2) rfl rfl) rfl rfl ?_
          refine aQ (q_fieldAddr s100 rfl rfl rfl) rfl ?_
          refine At.loudN (l_store t3 rfl rfl (i := 1) rfl rfl rfl rfl) ?_
          rintro _ _ _ ⟨rfl, rfl⟩
          refine aQ (q_fieldAddr s100 rfl rfl rfl) rfl ?_
          refine At.loudN (l_store t4 rfl rfl (i := 1) rfl rfl rfl rfl) ?_
          rintro _ _ _ ⟨rfl, rfl⟩
          refine aN (aT (aE (aR ?_)))
          refine aS 1 rfl rfl ?_
          refine aF s33 t3 rfl rfl rfl (Rd.loc (i := 2) rfl rfl) rfl rfl ?_
          refine aQ (q_loadS t100 rfl (RdS.loc (i := 0) rfl (m := 4) rfl) rfl) rfl ?_
          refine At.front 4 rfl ?_
          refine At.front 4 rfl ?_
          refine At.call en68 rfl (ih (i :: met) x.left (k.lefts x.key) b a c _ (by omega) hO2) (fun _ h => ⟨h.2.2.2.1, h.2.2.2.2.1, trivial⟩) (List.Perm.refl _) rfl ?_
          rintro _ _ _ ⟨n1, m2, rfl, rfl, rfl, he1⟩
          refine aS 1 rfl rfl ?_
          refine At.split (d := 132) rfl (fun hl => ?_) (fun hl => ?_)
          ·
           obtain ⟨s1, hs1⟩ := Option.isSome_iff_exists.1 hl
           obtain ⟨rfl, hO3⟩ := he1 s1 hs1
           have hcm := count_more t.ns.l.length s1.places (i :: met)
           refine aS 1 rfl rfl ?_
           refine At.open rfl rfl ?_
           refine aQ (q_fieldAddr s33 rfl rfl rfl) rfl ?_
           refine At.open rfl rfl ?_
           refine aQ (q_load t3 rfl (Rd.loc (i := 4) rfl rfl)) rfl ?_
           refine At.open rfl rfl ?_
           refine aQ (q_loadS t100 rfl (RdS.loc (i := 3) rfl (m := 4) rfl) rfl) rfl ?_
           refine At.open rfl rfl ?_
           refine At.front 1 rfl ?_
           refine At.front 1 rfl ?_
           refine At.call en68 rfl (ih (s1.places ++ i :: met) x.right (k.rights x.key) b a c _ (by omega) hO3) (fun _ h => ⟨h.2.2.2.1, h.2.2.2.2.1, trivial⟩) (List.Perm.refl _) rfl ?_
           rintro _ _ _ ⟨n2, m3, rfl, rfl, rfl, he2⟩
           refine aS 2 rfl rfl ?_
           refine aN (aT (At.ret ?_))
           exact At.results (Γr := []) (M := [[(b, .cells #[.int .i64 t.root, t.ns.val, .slice a t.ns.l.length c, .int .i64 n2] 97 (0, 0))], m3]) rfl (RVals.cons (RVal.tmp rfl) RVals.nil) (ix 2 rfl) (fun _ _ => trivial) (k_ (k_ (d_ (d_ (d_ r_))))) ⟨_, _, congrArg Value.bool (by rw [sh_right hxp hmet hroute hgood hs1, isSome_map]; rfl), rfl, rfl, .node (sh_right hxp hmet hroute hgood hs1) he2⟩
          ·
           have hs1 : shape t.p.ns f (i :: met) x.p.left (k.lefts x.p.key) = none := none_of hl
           refine aS 7 rfl rfl ?_
           refine aN (aT (At.ret ?_))
           exact At.results (Γr := []) (M := [[(b, .cells #[.int .i64 t.root, t.ns.val, .slice a t.ns.l.length c, .int .i64 n1] 97 (0, 0))], m2]) rfl (RVals.cons (RVal.tmp rfl) RVals.nil) (ix 2 rfl) (fun _ _ => trivial) (k_ (k_ (d_ (d_ (d_ r_))))) ⟨_, _, congrArg Value.bool (by rw [sh_left hxp hroute hgood hs1]; rfl), rfl, rfl, .no (sh_left hxp hroute hgood hs1)⟩
theorem may68 (t : Tr) : ∀ f, May68 t f
 | 0 => fun _ _ _ _ _ _ _ h => absurd h (Nat.not_lt_zero _)
 | f + 1 => may68_step t f (may68 t f)
theorem may21 (t : Tr) : Con Try.prog 21 [t.val] [ndsP t.ns, psP t.ns.l] [] (fun v Γ M => v = .bool (mayT t.p).isSome ∧ Γ = [] ∧ M = []) := by
 refine Con.body 30 Try.func21 rfl Try.ntmps21 rfl fun X H₀ L₀ => ?_
 refine aE (aR ?_)
 refine At.loud (l_box rfl) rfl ?_
 rintro _ _ _ ⟨b1, rfl, rfl, rfl⟩
 refine At.freeze 0 (φ := blk b1 _) rfl (fun _ h => blk_def.2 ⟨_, _, h⟩) ?_
 refine aS 1 rfl rfl ?_
 refine aN (aT (aE (aE (aR ?_))))
 refine aF s24 t22 rfl rfl rfl (Rd.blk (.head _) rfl) rfl rfl ?_
 refine aQ (q_len Try.underlying22 rfl) rfl ?_
 refine aS 1 rfl rfl ?_
 refine aN (aT ?_)
 refine At.if rfl (fun hbig => ?_) (fun hbig => ?_)
 ·
  refine aE (aR ?_)
  refine aS 1 rfl rfl ?_
  refine aN (aT (At.ret (At.thenRet ?_)))
  exact At.results (Γr := []) (M := []) rfl (RVals.cons (RVal.tmp rfl) RVals.nil) (ix 1 rfl) (fun _ _ => trivial) r_ ⟨congrArg Value.bool ((may_big (by simp [Tr.p]; omega)).symm), rfl, rfl⟩
 ·
  refine At.skip (aT (aE ?_))
  refine At.draw 5 (.q 0 (.q 1 (.q 2 (.q 3 (.o 4 (.e)))))) _ (List.Sublist.refl _) mixed (by kernel_rfl) rfl ?_
  refine oQ rfl (q_loadS t24 rfl (RdS.blk (.head _) (m := 2) rfl) rfl) rfl (cT cP) ?_
  refine oQ rfl (q_fieldAddr s24 rfl rfl rfl) rfl (cT cP) ?_
  refine oQ rfl (q_load t22 rfl (Rd.blk (.head _) rfl)) rfl (cT cP) ?_
  refine oQ rfl (q_len Try.underlying22 rfl) rfl (cT cP) ?_
  refine AtO.loudA rfl (l_makeSlice (m := t.ns.l.length) Try.underlying38 t4 rfl rfl rfl rfl rfl (by omega) (by unfold maxLen; omega)) rfl (by rintro _ _ _ ⟨_, _, rfl, _, rfl, rfl⟩; exact ⟨fun _ h => h, d_ r_⟩) ?_
  rintro _ _ _ ⟨bm, m, rfl, hO, rfl, rfl⟩
  refine AtO.done ?_
  have hO2 : Own 4 1 ((bits t.ns.l.length []).map rowB) (some ⟨bm, 0, none⟩) t.ns.l.length m := by rw [bits_nil]; exact hO
  have hN : t.p.ns.length = t.ns.l.length := by simp [Tr.p]
  have hc0 : (bits t.ns.l.length []).count false < t.ns.l.length + 1 := by have := count_all (bits t.ns.l.length []); rw [bits_length] at this; omega
  have hc1 : (bits t.ns.l.length []).count true = 0 := List.count_eq_zero.2 (by simp [bits])
  refine aQ (q_build t97 s97 rfl rfl) rfl ?_
  refine At.loud (l_box rfl) rfl ?_
  rintro _ _ _ ⟨b2, rfl, rfl, rfl⟩
  refine aS 1 rfl rfl ?_
  refine aN (aT (aE ?_))
  refine At.pieces (L' := [(b2, .cells #[.int .i64 t.root, t.ns.val, .slice (some ⟨bm, 0, none⟩) t.ns.l.length t.ns.l.length, .int .i64 ((bits t.ns.l.length []).count true : Nat)] 97 (0, 0))] :: m :: L₀) (by rw [hc1]; rfl) ?_
  refine At.draw 13 (.q 0 (.q 1 (.q 2 (.q 3 (.o 4 (.q 5 (.q 6 (.q 7 (.q 8 (.q 9 (.q 10 (.q 11 (.q 12 (.e)))))))))))))) (L₀) (d_ (d_ r_)) mixed (by kernel_rfl) rfl ?_
  refine oQ rfl (q_move rfl) rfl (cT cP) ?_
  refine oQ rfl (q_fieldAddr s24 rfl rfl rfl) rfl (cT cP) ?_
  refine oQ rfl (q_load t3 rfl (Rd.blk (.head _) rfl)) rfl (cT cP) ?_
  refine oQ rfl (q_build t100 s100 rfl rfl) rfl (cT cP) ?_
  refine AtO.front 1 rfl ?_
  refine AtO.front 1 rfl ?_
  refine AtO.callA rfl en68 rfl (may68 t _ [] t.root Kb.all _ _ _ _ hc0 hO2) (fun _ h => ⟨h.2.2.1, h.2.2.2.1, trivial⟩) (List.Perm.refl _) rfl r_ ?_
  rintro _ _ _ ⟨n1, m2, rfl, rfl, rfl, he⟩
  refine oQ rfl (q_move rfl) rfl (cT cP) ?_
  refine AtO.split (d := 20) rfl (fun hm => ?_) (fun hm => ?_)
  ·
   obtain ⟨s, hs⟩ := Option.isSome_iff_exists.1 hm
   obtain ⟨rfl, _⟩ := he s hs
   refine oG rfl rfl rfl (q_move rfl) rfl (cT cP) ?_
   refine oG rfl rfl rfl (q_nilCheck rfl) rfl (cT cP) ?_
   refine oG rfl rfl rfl (q_fieldAddr s97 rfl rfl rfl) rfl (cT cP) ?_
   refine oG rfl rfl rfl (q_load t3 rfl (Rd.loc (i := 0) rfl rfl)) rfl (cT cP) ?_
   refine oG rfl rfl rfl (q_fieldAddr s24 rfl rfl rfl) rfl (cT cP) ?_
   refine oG rfl rfl rfl (q_load t22 rfl (Rd.blk (.head _) rfl)) rfl (cT cP) ?_
   refine oG rfl rfl rfl (q_len Try.underlying22 rfl) rfl (cT cP) ?_
   refine AtO.done ?_
   refine aS 3 rfl rfl ?_
   refine aN (aT (At.ret ?_))
   exact At.results (Γr := []) (M := []) rfl (RVals.cons (RVal.tmp rfl) RVals.nil) (ix 1 rfl) (fun _ _ => trivial) (d_ (d_ r_)) ⟨congrArg Value.bool (by rw [may_some (by omega) (by rw [hN]; exact hs), hN]), rfl, rfl⟩
  ·
   refine AtO.shut rfl rfl rfl rfl (cT cP) ?_
   refine AtO.shut rfl rfl rfl rfl (cT cP) ?_
   refine AtO.shut rfl rfl rfl rfl (cT cP) ?_
   refine AtO.shut rfl rfl rfl rfl (cT cP) ?_
   refine AtO.shut rfl rfl rfl rfl (cT cP) ?_
   refine AtO.shut rfl rfl rfl rfl (cT cP) ?_
   refine AtO.shut rfl rfl rfl rfl (cT cP) ?_
   refine AtO.done ?_
   refine aS 3 rfl rfl ?_
   refine aN (aT (At.ret ?_))
   exact At.results (Γr := []) (M := []) rfl (RVals.cons (RVal.tmp rfl) RVals.nil) (ix 1 rfl) (fun _ _ => trivial) (d_ (d_ r_)) ⟨congrArg Value.bool ((may_none (by rw [hN]; exact hm)).symm), rfl, rfl⟩
theorem lay69_step (t : Tr) (hsm : smallP t.ns.l) (s : Sh) (ih : ∀ i l r, s = .node i l r → Lay69 t l ∧ Lay69 t r) : Lay69 t s := by
 intro at_ hH o a c Mo hO hb
 refine Con.body 50 Try.func69 rfl Try.ntmps69 rfl fun X H₀ L₀ => ?_
 obtain ⟨i, x, rfl, hx, hg, hc⟩ := hH.at
 refine At.know (prsP x.ps) (fun _ h => psP_get h.2.2.1 hx) ?_
 refine aE (aR ?_)
 refine At.loud (l_box rfl) rfl ?_
 rintro _ _ _ ⟨b1, rfl, rfl, rfl⟩
 refine At.freeze 0 (φ := blk b1 _) rfl (fun _ h => blk_def.2 ⟨_, _, h⟩) ?_
 refine aS 1 rfl rfl ?_
 refine aN (aT (aE (aR ?_)))
 refine aS 1 rfl rfl ?_
 refine aQ (q_len Try.underlying22 rfl) rfl ?_
 refine aS 1 rfl rfl ?_
 refine aN (aT (aE (aR ?_)))
 refine aF s24 t22 rfl rfl rfl (Rd.blk (.head _) rfl) rfl rfl ?_
 refine aS 1 rfl rfl ?_
 refine aQ (q_index Try.underlying22 t33 rfl (ix 3 rfl) (by simp) rfl rfl (lt_of_get hx)) rfl ?_
 refine aQ (q_loadS t33 rfl (RdS.sl0 (ix 3 rfl) (map_get hx)) rfl) rfl ?_
 refine At.call en73 rfl (copy73 x (hsm x (List.mem_of_getElem? hx))) (fun _ h => ⟨h.2.1, trivial⟩) (List.Perm.refl _) rfl ?_
 rintro _ _ _ ⟨s0, rfl, hs0, rfl, rfl⟩
 refine At.loud (l_alloc t33) rfl ?_
 rintro _ _ _ ⟨b2, rfl, rfl, rfl⟩
 refine At.loudN (l_store t33 rfl rfl (i := 0) rfl rfl rfl rfl) ?_
 rintro _ _ _ ⟨rfl, rfl⟩
 refine aN (aT (aE (aR ?_)))
 refine aS 1 rfl rfl ?_
 refine aQ (q_loadS t33 rfl (RdS.loc (i := 0) rfl (m := 6) rfl) rfl) rfl ?_
 refine At.loud (l_buildSlice Try.underlying22 t33 rfl rfl rfl rfl rfl) rfl ?_
 rintro _ _ _ ⟨b3, rfl, rfl, rfl⟩
 refine At.loud (l_append rfl Try.underlying22 t33 rfl rfl hO (by simp) (i := 2) rfl rfl (news := [rowN { x with ps := s0 }]) (by simp [rowN]) (RdS.loc (i := 0) rfl (m := 6) rfl) rfl rfl rfl (by omega) (by unfold maxLen; omega)) rfl ?_
 rintro _ _ _ ⟨a1, c1, M1, rfl, ow1, rfl, rfl⟩
 have hO1 : Own 33 6 ((o ++ { x with ps := s0 } :: []).map rowN) a1 c1 M1 := by simpa using ow1
 refine aS 1 rfl rfl ?_
 refine aN (aT (aE (aE (aR ?_))))
 refine aF s33 t4 rfl rfl rfl (Rd.loc (i := 1) rfl rfl) rfl rfl ?_
 refine aN (aT ?_)
 refine At.cond rfl (fun hroute => ?_) (fun hroute => ?_)
 ·
  rcases hc with ⟨hc, _⟩ | ⟨hc, l, r, rfl, hl, hr⟩
  ·exact absurd hroute (by simp [hc])
  obtain ⟨ih1, ih2⟩ := ih i l r rfl
  simp only [Sh.size] at hb
  refine aE ?_
  refine At.draw 5 (.q 0 (.q 1 (.q 2 (.q 3 (.q 4 (.e)))))) _ (List.Sublist.refl _) mixed (by kernel_rfl) rfl ?_
  refine oQ rfl (q_fieldAddr s33 rfl rfl rfl) rfl (cT (cT cP)) ?_
  refine oQ rfl (q_load t3 rfl (Rd.loc (i := 1) rfl rfl)) rfl (cT (cT cP)) ?_
  refine oQ rfl (q_fieldAddr s33 rfl rfl rfl) rfl (cT (cT cP)) ?_
  refine oQ rfl (q_load t3 rfl (Rd.loc (i := 1) rfl rfl)) rfl (cT (cT cP)) ?_
  refine oQ rfl (q_assign rfl) rfl (cT (cT cP)) ?_
  refine AtO.done ?_
  refine aS 1 rfl rfl ?_
  refine aN (aT (aE (aR ?_)))
  refine aS 3 rfl rfl ?_
  refine aQ (q_len Try.underlying22 rfl) rfl ?_
  refine aQ (q_indexOwn Try.underlying22 t33 rfl hO1 (by simp) rfl rfl (by omega)) rfl ?_
  refine aQ (q_fieldAddr s33 rfl rfl rfl) rfl ?_
  refine At.loudN (l_storeOwn t3 rfl rfl hO1 (i := 2) rfl (get_mid o [] { x with ps := s0 }) rfl rfl rfl) ?_
  rintro _ _ _ ⟨Mow1, ow1, rfl, rfl⟩
  refine aN (aT (aE (aR ?_)))
  have hO2 : Own 33 6 ((o ++ [{ x with ps := s0, left := ((o.length + 1 : Nat) : Int) }]).map rowN) a1 c1 Mow1 := by rw [← set_mid o [] { x with ps := s0 }]; exact ow1
  refine At.say 2 (.slice a1 (o ++ [({ x with ps := s0, left := ((o.length + 1 : Nat) : Int) } : Nd)]).length c1) rfl (by simp) ?_
  refine aQ (q_loadS t24 rfl (RdS.blk (ix 1 rfl) (m := 2) rfl) rfl) rfl ?_
  refine aS 2 rfl rfl ?_
  refine At.front 2 rfl ?_
  refine At.call en69 rfl (ih1 x.left hl _ a1 c1 _ hO2 (by simp; omega)) (fun _ h => ⟨h.2.2.2.2.1, h.2.2.2.2.2.1, trivial⟩) (List.Perm.refl _) rfl ?_
  rintro _ _ _ ⟨o1, a2, c2, M2, rfl, rfl, rfl, hO3, he1⟩
  refine aS 1 rfl rfl ?_
  refine aN (aT (aE (aR ?_)))
  have hl1 : o1.length = l.size := by have := congrArg List.length he1; rwa [List.length_map, Sh.lay_length] at this
  rw [List.append_assoc, List.singleton_append] at hO3 ⊢
  refine aS 3 rfl rfl ?_
  refine aQ (q_len Try.underlying22 rfl) rfl ?_
  refine aQ (q_indexOwn Try.underlying22 t33 rfl hO3 (by simp) rfl rfl (by simp)) rfl ?_
  refine aQ (q_fieldAddr s33 rfl rfl rfl) rfl ?_
  refine At.loudN (l_storeOwn t3 rfl rfl hO3 (i := 0) rfl (get_mid o o1 _) rfl rfl rfl) ?_
  rintro _ _ _ ⟨Mow2, ow2, rfl, rfl⟩
  refine aN (aT (aR ?_))
  have hO4 : Own 33 6 ((o ++ { x with ps := s0, left := ((o.length + 1 : Nat) : Int), right := (((o ++ { x with ps := s0, left := ((o.length + 1 : Nat) : Int) } :: o1).length : Nat) : Int) } :: o1).map rowN) a2 c2 Mow2 := by rw [← set_mid o o1]; exact ow2
  refine At.say 2 (.slice a2 (o ++ ({ x with ps := s0, left := ((o.length + 1 : Nat) : Int), right := (((o ++ { x with ps := s0, left := ((o.length + 1 : Nat) : Int) } :: o1).length : Nat) : Int) } : Nd) :: o1).length c2) rfl (by simp) ?_
  refine aQ (q_loadS t24 rfl (RdS.blk (ix 2 rfl) (m := 2) rfl) rfl) rfl ?_
  refine aS 2 rfl rfl ?_
  refine At.call en69 rfl (ih2 x.right hr _ a2 c2 _ hO4 (by simp; omega)) (fun _ h => ⟨h.2.2.2.2.2.1, h.2.2.2.2.2.2.1, trivial⟩) (List.Perm.refl _) rfl ?_
  rintro _ _ _ ⟨o2, a3, c3, M3, rfl, rfl, rfl, hO5, he2⟩
  refine aS 1 rfl rfl ?_
  refine aN (aT (aE (aR ?_)))
  have hl2 : o2.length = r.size := by have := congrArg List.length he2; rwa [List.length_map, Sh.lay_length] at this
  refine At.know (psP (({ x with ps := s0, left := ((o.length + 1 : Nat) : Int), right := (((o ++ { x with ps := s0, left := ((o.length + 1 : Nat) : Int) } :: o1).length : Nat) : Int) } : Nd) :: (o1 ++ o2))) (fun _ h => psP_cons (n := { x with ps := s0, left := ((o.length + 1 : Nat) : Int), right := (((o ++ { x with ps := s0, left := ((o.length + 1 : Nat) : Int) } :: o1).length : Nat) : Int) }) h.2.2.1 (psP_app h.2.1 h.1)) ?_
  refine aS 2 rfl rfl ?_
  refine aN (aT (At.ret ?_))
  exact At.results (Γr := [_]) (M := [M3]) rfl (RVals.cons (RVal.tmp rfl) RVals.nil) (ix 6 rfl) (fun _ h => ⟨h.1, trivial⟩) (k_ (d_ (d_ r_))) (lay_node hO5 hg hl1 hs0 he1 he2 rfl (by simp [Nat.add_comm, Nat.add_left_comm]))
 ·
  obtain rfl : s = .leaf i := by
   rcases hc with ⟨_, h⟩ | ⟨h, _⟩
   ·exact h
   ·rw [show x.route = false from hroute] at h; cases h
  refine At.know (psP [({ x with ps := s0 } : Nd)]) (fun _ h => psP_cons (n := { x with ps := s0 }) h.1 psP_nil) ?_
  refine At.skip (aT (aE (aR ?_)))
  refine aS 2 rfl rfl ?_
  refine aN (aT (At.ret ?_))
  exact At.results (Γr := [_]) (M := [M1]) rfl (RVals.cons (RVal.tmp rfl) RVals.nil) (ix 4 rfl) (fun _ h => ⟨h.1, trivial⟩) (d_ (d_ (k_ r_))) ⟨[{ x with ps := s0 }], a1, c1, M1, by simp [resVal], rfl, rfl, hO1, by rw [Sh.lay, hg]; simp [Nd.p, hs0]⟩
theorem lay69 (t : Tr) (hsm : smallP t.ns.l) (s : Sh) : Lay69 t s := by
 induction s with
 | leaf i => exact lay69_step t hsm _ fun _ _ _ h => by cases h
 | node i l r h1 h2 => exact lay69_step t hsm _ fun _ _ _ h => by cases h; exact ⟨h1, h2⟩
end Go.Proofs.Ytmkodknmknfdkaa
set_option linter.unusedVariables false
set_option linter.unusedSimpArgs false
namespace Go.Proofs.Ytmkodknmknfdkaa
open E
set_option maxRecDepth 4000
theorem t37 : tRow Try.prog 37 = some (true, 1, 24, .slice none 0 0) := by kernel_rfl
theorem t40 : tRow Try.prog 40 = some (false, 3, 56, .agg #[.int .i64 0, .slice none 0 0, .slice none 0 0]) := by kernel_rfl
theorem s40 : sRow Try.prog 40 = some [(0, 1, true), (1, 1, true), (2, 1, true)] := by kernel_rfl
theorem en21 : Enters Try.prog 21 := Enters.mk' Try.func21 rfl rfl
theorem en25 : Enters Try.prog 25 := Enters.mk' Try.func25 rfl rfl
theorem en28 : Enters Try.prog 28 := Enters.mk' Try.func28 rfl rfl
theorem en70 : Enters Try.prog 70 := Enters.mk' Try.func70 rfl rfl
theorem en79 : Enters Try.prog 79 := Enters.mk' Try.func79 rfl rfl
theorem plain25 (t : Tr) (hsm : smallP t.ns.l) : Con Try.prog 25 [t.val] [ndsP t.ns, psP t.ns.l] [] (PlainEnd t) := by
 refine Con.body 13 Try.func25 rfl Try.ntmps25 rfl fun X H₀ L₀ => ?_
 refine aE (aR ?_)
 refine At.loud (l_box rfl) rfl ?_
 rintro _ _ _ ⟨b1, rfl, rfl, rfl⟩
 refine At.freeze 0 (φ := blk b1 _) rfl (fun _ h => blk_def.2 ⟨_, _, h⟩) ?_
 refine At.loud (l_alloc t24) rfl ?_
 rintro _ _ _ ⟨b2, rfl, rfl, rfl⟩
 refine aS 1 rfl rfl ?_
 refine aN (aT (aE (aE (aR ?_))))
 refine aQ (q_loadS t24 rfl (RdS.blk (.head _) (m := 2) rfl) rfl) rfl ?_
 refine At.call en21 rfl (may21 _) (fun _ h => ⟨h.2.2.1, h.2.2.2.1, trivial⟩) (List.Perm.refl _) rfl ?_
 rintro _ _ _ ⟨rfl, rfl, rfl⟩
 refine aS 1 rfl rfl ?_
 refine aN (aT ?_)
 refine At.cond rfl (fun hm => ?_) (fun hm => ?_)
 ·
  refine At.nilSeg ?_
  refine At.know (psP []) (fun _ h => psP_nil) ?_
  refine aE (aR ?_)
  refine aQ (q_build t24 s24 rfl rfl) rfl ?_
  refine At.loudN (l_store t24 rfl rfl (i := 1) rfl rfl rfl rfl) ?_
  rintro _ _ _ ⟨rfl, rfl⟩
  refine aS 1 rfl rfl ?_
  refine aN (aT (At.ret (At.thenRet ?_)))
  exact At.results (Γr := [psP []]) (M := [[]]) rfl (RVals.cons (RVal.cellS rfl t24 (RdS.loc (i := 1) rfl (m := 2) rfl) rfl) (RVals.cons (RVal.tmp rfl) RVals.nil)) (ix 2 rfl) (fun _ h => ⟨h.1, trivial⟩) (k_ (d_ r_)) ⟨⟨0, ⟨none, 0, []⟩⟩, [], by rw [not_t hm]; rfl, rfl, rfl, Own.nil _ _, by rw [plainD, plainT, none_of (not_t hm)]; rfl⟩
 ·
  obtain ⟨s, hs⟩ := Option.isSome_iff_exists.1 (not_f hm)
  have hg := good_of hs
  have hsz : s.size ≤ 2000 := by have h1 := hg.size; have h2 := hg.few; omega
  refine At.nilSeg ?_
  refine At.skip (aT (aE (aR ?_)))
  refine aQ (q_loadS t24 rfl (RdS.blk (.head _) (m := 2) rfl) rfl) rfl ?_
  refine aF s24 t3 rfl rfl rfl (Rd.blk (.head _) rfl) rfl rfl ?_
  refine At.call en69 rfl (lay69 t hsm s t.root hg.hangs [] none 0 [] (Own.nil _ _) (by simp; omega)) (fun _ h => ⟨h.2.2.1, h.2.2.2.1, trivial⟩) (List.Perm.refl _) rfl ?_
  rintro _ _ _ ⟨o1, a1, c1, M1, rfl, rfl, rfl, hO, he⟩
  refine aQ (q_build t24 s24 rfl rfl) rfl ?_
  refine At.loudN (l_store t24 rfl rfl (i := 1) rfl rfl rfl rfl) ?_
  rintro _ _ _ ⟨rfl, rfl⟩
  refine aS 1 rfl rfl ?_
  refine aN (aT (At.ret ?_))
  exact At.results (Γr := [psP o1]) (M := [M1]) rfl (RVals.cons (RVal.cellS rfl t24 (RdS.loc (i := 1) rfl (m := 2) rfl) rfl) (RVals.cons (RVal.tmp rfl) RVals.nil)) (ix 2 rfl) (fun _ h => ⟨h.1, trivial⟩) (k_ (d_ r_)) ⟨⟨0, ⟨a1, c1, o1⟩⟩, M1, by rw [not_f hm]; rfl, rfl, rfl, hO, plain_some hs he⟩
theorem leaves70_step (t : Tr) (s : Sh) (ih : ∀ i l r, s = .node i l r → Lv 70 t l ∧ Lv 70 t r) : Lv 70 t s := by
 intro at_ hH o a c Mo hO hb
 refine Con.body 29 Try.func70 rfl Try.ntmps70 rfl fun X H₀ L₀ => ?_
 obtain ⟨i, x, rfl, hx, hg, hc⟩ := hH.at
 refine At.know (prsP x.ps) (fun _ h => psP_get h.2.2.1 hx) ?_
 refine aE (aR ?_)
 refine At.loud (l_box rfl) rfl ?_
 rintro _ _ _ ⟨b1, rfl, rfl, rfl⟩
 refine At.freeze 0 (φ := blk b1 _) rfl (fun _ h => blk_def.2 ⟨_, _, h⟩) ?_
 refine aS 1 rfl rfl ?_
 refine aN (aT (aE (aR ?_)))
 refine aF s24 t22 rfl rfl rfl (Rd.blk (.head _) rfl) rfl rfl ?_
 refine aS 1 rfl rfl ?_
 refine aQ (q_index Try.underlying22 t33 rfl (ix 3 rfl) (by simp) rfl rfl (lt_of_get hx)) rfl ?_
 refine aQ (q_loadS t33 rfl (RdS.sl0 (ix 3 rfl) (map_get hx)) rfl) rfl ?_
 refine At.loud (l_alloc t33) rfl ?_
 rintro _ _ _ ⟨b2, rfl, rfl, rfl⟩
 refine At.loudN (l_store t33 rfl rfl (i := 0) rfl rfl rfl rfl) ?_
 rintro _ _ _ ⟨rfl, rfl⟩
 refine aN (aT (aE (aE (aR ?_))))
 refine aF s33 t4 rfl rfl rfl (Rd.loc (i := 0) rfl rfl) rfl rfl ?_
 refine aS 1 rfl rfl ?_
 refine aN (aT ?_)
 refine At.cond rfl (fun hr => ?_) (fun hr => ?_)
 ·
  obtain rfl : s = .leaf i := by
   rcases hc with ⟨_, h⟩ | ⟨h, _⟩
   ·exact h
   ·rw [show x.route = false from not_t hr] at h; cases h
  simp only [Sh.size] at hb
  refine aE (aR ?_)
  refine aS 2 rfl rfl ?_
  refine At.loud (l_buildSlice Try.underlying37 t3 rfl rfl rfl rfl rfl) rfl ?_
  rintro _ _ _ ⟨b3, rfl, rfl, rfl⟩
  refine At.loud (l_append rfl Try.underlying37 t3 rfl rfl hO (by simp) (i := 2) rfl rfl (news := [rowI (i : Int)]) (by simp [rowI]) (RdS.loc (i := 0) rfl (m := 1) rfl) rfl rfl rfl (by omega) (by unfold maxLen; omega)) rfl ?_
  rintro _ _ _ ⟨a1, c1, M1, rfl, ow1, rfl, rfl⟩
  refine aS 1 rfl rfl ?_
  refine aN (aT (At.ret (At.thenRet ?_)))
  exact At.results (Γr := []) (M := [M1]) rfl (RVals.cons (RVal.tmp rfl) RVals.nil) (ix 2 rfl) (fun _ _ => trivial) (d_ (d_ (k_ r_))) ⟨a1, c1, M1, by simp [Sh.leaves, toI, resVal], rfl, rfl, by simpa [Sh.leaves, toI] using ow1⟩
 ·
  obtain ⟨l, r, rfl, hl, hr2⟩ : ∃ l r, s = .node i l r ∧ Hangs t.p.ns l x.left ∧ Hangs t.p.ns r x.right := by
   rcases hc with ⟨h, _⟩ | ⟨_, h⟩
   ·rw [show x.route = true from not_f hr] at h; cases h
   ·exact h
  obtain ⟨ih1, ih2⟩ := ih i l r rfl
  simp only [Sh.size] at hb
  have hll := leaves_len l
  refine At.skip (aT (aE ?_))
  refine At.draw 8 (.q 0 (.q 1 (.q 2 (.q 3 (.q 4 (.q 5 (.q 6 (.o 7 (.e))))))))) (_ :: L₀) (k_ (d_ r_)) mixed (by kernel_rfl) rfl ?_
  refine oQ rfl (q_loadS t24 rfl (RdS.blk (.head _) (m := 2) rfl) rfl) rfl (cT cP) ?_
  refine oQ rfl (q_fieldAddr s33 rfl rfl rfl) rfl (cT cP) ?_
  refine oQ rfl (q_load t3 rfl (Rd.loc (i := 0) rfl rfl)) rfl (cT cP) ?_
  refine oQ rfl (q_loadS t24 rfl (RdS.blk (.head _) (m := 2) rfl) rfl) rfl (cT cP) ?_
  refine oQ rfl (q_fieldAddr s33 rfl rfl rfl) rfl (cT cP) ?_
  refine oQ rfl (q_load t3 rfl (Rd.loc (i := 0) rfl rfl)) rfl (cT cP) ?_
  refine oQ rfl (q_move rfl) rfl (cT cP) ?_
  refine AtO.front 1 rfl ?_
  refine AtO.callA rfl en70 rfl (ih1 x.left hl o a c _ hO (by omega)) (fun _ h => ⟨h.2.2.2.1, h.2.2.2.2.1, trivial⟩) (List.Perm.refl _) rfl r_ ?_
  rintro _ _ _ ⟨a1, c1, M1, rfl, rfl, rfl, hO1⟩
  refine AtO.done ?_
  refine At.call en70 rfl (ih2 x.right hr2 _ a1 c1 _ hO1 (by simp [toI]; omega)) (fun _ h => ⟨h.2.2.2.1, h.2.2.2.2.1, trivial⟩) (List.Perm.refl _) rfl ?_
  rintro _ _ _ ⟨a2, c2, M2, rfl, rfl, rfl, hO2⟩
  refine aS 1 rfl rfl ?_
  refine aN (aT (At.ret ?_))
  exact At.results (Γr := []) (M := [M2]) rfl (RVals.cons (RVal.tmp rfl) RVals.nil) (ix 2 rfl) (fun _ _ => trivial) (k_ (d_ r_)) ⟨a2, c2, M2, by simp only [Sh.leaves, toI_app, List.append_assoc]; rfl, rfl, rfl, by simpa only [Sh.leaves, toI_app, List.append_assoc] using hO2⟩
theorem leaves70 (t : Tr) (s : Sh) : Lv 70 t s := by
 induction s with
 | leaf i => exact leaves70_step t _ fun _ _ _ h => by cases h
 | node i l r h1 h2 => exact leaves70_step t _ fun _ _ _ h => by cases h; exact ⟨h1, h2⟩
theorem leaves79_step (t : Tr) (s : Sh) (ih : ∀ i l r, s = .node i l r → Lv 79 t l ∧ Lv 79 t r) : Lv 79 t s := by
 intro at_ hH o a c Mo hO hb
 refine Con.body 29 Try.func79 rfl Try.ntmps79 rfl fun X H₀ L₀ => ?_
 obtain ⟨i, x, rfl, hx, hg, hc⟩ := hH.at
 refine At.know (prsP x.ps) (fun _ h => psP_get h.2.2.1 hx) ?_
 refine aE (aR ?_)
 refine At.loud (l_box rfl) rfl ?_
 rintro _ _ _ ⟨b1, rfl, rfl, rfl⟩
 refine At.freeze 0 (φ := blk b1 _) rfl (fun _ h => blk_def.2 ⟨_, _, h⟩) ?_
 refine aS 1 rfl rfl ?_
 refine aN (aT (aE (aR ?_)))
 refine aF s24 t22 rfl rfl rfl (Rd.blk (.head _) rfl) rfl rfl ?_
 refine aS 1 rfl rfl ?_
 refine aQ (q_index Try.underlying22 t33 rfl (ix 3 rfl) (by simp) rfl rfl (lt_of_get hx)) rfl ?_
 refine aQ (q_loadS t33 rfl (RdS.sl0 (ix 3 rfl) (map_get hx)) rfl) rfl ?_
 refine At.loud (l_alloc t33) rfl ?_
 rintro _ _ _ ⟨b2, rfl, rfl, rfl⟩
 refine At.loudN (l_store t33 rfl rfl (i := 0) rfl rfl rfl rfl) ?_
 rintro _ _ _ ⟨rfl, rfl⟩
 refine aN (aT (aE (aE (aR ?_))))
 refine aF s33 t4 rfl rfl rfl (Rd.loc (i := 0) rfl rfl) rfl rfl ?_
 refine aS 1 rfl rfl ?_
 refine aN (aT ?_)
 refine At.cond rfl (fun hr => ?_) (fun hr => ?_)
 ·
  obtain rfl : s = .leaf i := by
   rcases hc with ⟨_, h⟩ | ⟨h, _⟩
   ·exact h
   ·rw [show x.route = false from not_t hr] at h; cases h
  simp only [Sh.size] at hb
  refine aE (aR ?_)
  refine aS 2 rfl rfl ?_
  refine At.loud (l_buildSlice Try.underlying37 t3 rfl rfl rfl rfl rfl) rfl ?_
  rintro _ _ _ ⟨b3, rfl, rfl, rfl⟩
  refine At.loud (l_append rfl Try.underlying37 t3 rfl rfl hO (by simp) (i := 2) rfl rfl (news := [rowI (i : Int)]) (by simp [rowI]) (RdS.loc (i := 0) rfl (m := 1) rfl) rfl rfl rfl (by omega) (by unfold maxLen; omega)) rfl ?_
  rintro _ _ _ ⟨a1, c1, M1, rfl, ow1, rfl, rfl⟩
  refine aS 1 rfl rfl ?_
  refine aN (aT (At.ret (At.thenRet ?_)))
  exact At.results (Γr := []) (M := [M1]) rfl (RVals.cons (RVal.tmp rfl) RVals.nil) (ix 2 rfl) (fun _ _ => trivial) (d_ (d_ (k_ r_))) ⟨a1, c1, M1, by simp [Sh.leaves, toI, resVal], rfl, rfl, by simpa [Sh.leaves, toI] using ow1⟩
 ·
  obtain ⟨l, r, rfl, hl, hr2⟩ : ∃ l r, s = .node i l r ∧ Hangs t.p.ns l x.left ∧ Hangs t.p.ns r x.right := by
   rcases hc with ⟨h, _⟩ | ⟨_, h⟩
   ·rw [show x.route = true from not_f hr] at h; cases h
   ·exact h
  obtain ⟨ih1, ih2⟩ := ih i l r rfl
  simp only [Sh.size] at hb
  have hll := leaves_len l
  refine At.skip (aT (aE ?_))
  refine At.draw 8 (.q 0 (.q 1 (.q 2 (.q 3 (.q 4 (.q 5 (.q 6 (.o 7 (.e))))))))) (_ :: L₀) (k_ (d_ r_)) mixed (by kernel_rfl) rfl ?_
  refine oQ rfl (q_loadS t24 rfl (RdS.blk (.head _) (m := 2) rfl) rfl) rfl (cT cP) ?_
  refine oQ rfl (q_fieldAddr s33 rfl rfl rfl) rfl (cT cP) ?_
  refine oQ rfl (q_load t3 rfl (Rd.loc (i := 0) rfl rfl)) rfl (cT cP) ?_
  refine oQ rfl (q_loadS t24 rfl (RdS.blk (.head _) (m := 2) rfl) rfl) rfl (cT cP) ?_
  refine oQ rfl (q_fieldAddr s33 rfl rfl rfl) rfl (cT cP) ?_
  refine oQ rfl (q_load t3 rfl (Rd.loc (i := 0) rfl rfl)) rfl (cT cP) ?_
  refine oQ rfl (q_move rfl) rfl (cT cP) ?_
  refine AtO.front 1 rfl ?_
  refine AtO.callA rfl en79 rfl (ih1 x.left hl o a c _ hO (by omega)) (fun _ h => ⟨h.2.2.2.1, h.2.2.2.2.1, trivial⟩) (List.Perm.refl _) rfl r_ ?_
  rintro _ _ _ ⟨a1, c1, M1, rfl, rfl, rfl, hO1⟩
  refine AtO.done ?_
  refine At.call en79 rfl (ih2 x.right hr2 _ a1 c1 _ hO1 (by simp [toI]; omega)) (fun _ h => ⟨h.2.2.2.1, h.2.2.2.2.1, trivial⟩) (List.Perm.refl _) rfl ?_
  rintro _ _ _ ⟨a2, c2, M2, rfl, rfl, rfl, hO2⟩
  refine aS 1 rfl rfl ?_
  refine aN (aT (At.ret ?_))
  exact At.results (Γr := []) (M := [M2]) rfl (RVals.cons (RVal.tmp rfl) RVals.nil) (ix 2 rfl) (fun _ _ => trivial) (k_ (d_ r_)) ⟨a2, c2, M2, by simp only [Sh.leaves, toI_app, List.append_assoc]; rfl, rfl, rfl, by simpa only [Sh.leaves, toI_app, List.append_assoc] using hO2⟩
theorem leaves79 (t : Tr) (s : Sh) : Lv 79 t s := by
 induction s with
 | leaf i => exact leaves79_step t _ fun _ _ _ h => by cases h
 | node i l r h1 h2 => exact leaves79_step t _ fun _ _ _ h => by cases h; exact ⟨h1, h2⟩
theorem find26 (t : Tr) (key : Int) : Con Try.prog 26 [t.val, .int .i64 key] [ndsP t.ns, psP t.ns.l] [] (WayEnd t key) := by
 refine Con.body 54 Try.func26 rfl Try.ntmps26 rfl fun X H₀ L₀ => ?_
 refine At.lenOf (hs := (ix 1 rfl)) fun hlen => ?_
 rw [List.length_map] at hlen
 refine aE (aR ?_)
 refine At.loud (l_box rfl) rfl ?_
 rintro _ _ _ ⟨b1, rfl, rfl, rfl⟩
 refine At.freeze 0 (φ := blk b1 _) rfl (fun _ h => blk_def.2 ⟨_, _, h⟩) ?_
 refine At.loud (l_alloc t40) rfl ?_
 rintro _ _ _ ⟨b2, rfl, rfl, rfl⟩
 refine aS 1 rfl rfl ?_
 refine aN (aT (aE (aE (aR ?_))))
 refine aQ (q_loadS t24 rfl (RdS.blk (.head _) (m := 2) rfl) rfl) rfl ?_
 refine At.call en21 rfl (may21 _) (fun _ h => ⟨h.2.2.1, h.2.2.2.1, trivial⟩) (List.Perm.refl _) rfl ?_
 rintro _ _ _ ⟨rfl, rfl, rfl⟩
 refine aS 1 rfl rfl ?_
 refine aN (aT ?_)
 refine At.cond rfl (fun hm => ?_) (fun hm => ?_)
 ·
  refine At.know (intsP ⟨none, 0, []⟩) (fun _ h => sl_nil _ _ _ (Nat.zero_le _)) ?_
  refine At.know (boolsP ⟨none, 0, []⟩) (fun _ h => sl_nil _ _ _ (Nat.zero_le _)) ?_
  refine aE (aR ?_)
  refine aQ (q_build t40 s40 rfl rfl) rfl ?_
  refine At.loudN (l_store t40 rfl rfl (i := 0) rfl rfl rfl rfl) ?_
  rintro _ _ _ ⟨rfl, rfl⟩
  refine aS 1 rfl rfl ?_
  refine aN (aT (At.ret (At.thenRet ?_)))
  exact At.results (Γr := [intsP ⟨none, 0, []⟩, boolsP ⟨none, 0, []⟩]) (M := []) rfl (RVals.cons (RVal.cellS rfl t40 (RdS.loc (i := 0) rfl (m := 3) rfl) rfl) (RVals.cons (RVal.tmp rfl) RVals.nil)) (ix 3 rfl) (fun _ h => ⟨h.2.1, h.1, trivial⟩) (d_ r_) ⟨⟨none, 0, []⟩, ⟨none, 0, []⟩, by rw [not_t hm, findD, findT, none_of (not_t hm)]; rfl, rfl, rfl, by rw [findD, findT, none_of (not_t hm)]; rfl, by rw [findD, findT, none_of (not_t hm)]; rfl⟩
 ·
  obtain ⟨s, hs⟩ := Option.isSome_iff_exists.1 (not_f hm)
  have hg := good_of hs
  have hsz : s.size ≤ 2000 := by have h1 := hg.size; have h2 := hg.few; omega
  refine At.nilSeg ?_
  refine At.nilSeg ?_
  refine At.skip (aT (aE (aR ?_)))
  refine aF s24 t3 rfl rfl rfl (Rd.blk (.head _) rfl) rfl rfl ?_
  refine aQ (q_build t40 s40 rfl rfl) rfl ?_
  refine At.loud (l_alloc t40) rfl ?_
  rintro _ _ _ ⟨b3, rfl, rfl, rfl⟩
  refine At.loudN (l_store t40 rfl rfl (i := 0) rfl rfl rfl rfl) ?_
  rintro _ _ _ ⟨rfl, rfl⟩
  refine aN (aT (aE (At.block ?_)))
  refine At.front 2 rfl ?_
  refine At.front 2 rfl ?_
  refine At.front 2 rfl ?_
  refine At.loopK (ι := Sh × Int × (Nat × List Int × Option Addr × Nat × Seg) × (Nat × List Bool × Option Addr × Nat × Seg)) [7, 8, 16, 17, 18, 19, 20, 21, 22, 23, 24, 25, 26, 27, 28, 29, 30, 31, 32, 33, 34, 35, 36, 37, 38, 39, 40, 41, 42, 43, 44, 45, 46, 47, 48, 49, 50, 51, 52] (fun ⟨s1, at_, ⟨n1, us, a1, c1, M1⟩, ⟨n2, rs, a2, c2, M2⟩⟩ => []) (fun ⟨s1, at_, ⟨n1, us, a1, c1, M1⟩, ⟨n2, rs, a2, c2, M2⟩⟩ => []) (fun ⟨s1, at_, ⟨n1, us, a1, c1, M1⟩, ⟨n2, rs, a2, c2, M2⟩⟩ => [[(b3, .cells #[.int .i64 at_, .slice a1 n1 c1, .slice a2 n2 c2] 40 (0, 0))], M1, M2]) _ (fun ⟨s1, at_, ⟨n1, us, a1, c1, M1⟩, ⟨n2, rs, a2, c2, M2⟩⟩ => Way t key s1 at_ us rs ∧ Own 3 1 (us.map rowI) a1 c1 M1 ∧ Own 4 1 (rs.map rowB) a2 c2 M2 ∧ us.length + s1.size ≤ 2000 ∧ rs.length = us.length ∧ n1 = us.length ∧ n2 = rs.length) (fun ⟨s1, at_, ⟨n1, us, a1, c1, M1⟩, ⟨n2, rs, a2, c2, M2⟩⟩ => s1.size) (s, t.root, (0, [], none, 0, []), (0, [], none, 0, [])) ⟨Way.start key hs, Own.nil _ _, Own.nil _ _, by simpa using hsz, rfl, rfl, rfl⟩ trivial (fun _ _ => trivial) (k_ (k_ (k_ r_))) ?_
  intro i0 hI0
  obtain ⟨s1, at_, ⟨n1, us, a1, c1, M1⟩, ⟨n2, rs, a2, c2, M2⟩⟩ := i0
  obtain ⟨hW, hO1, hO2, hsz1, hrl, hn1, hn2⟩ := hI0
  obtain ⟨i, x, rfl, hx, hxg, hc⟩ := hW.hangs.at
  refine At.know (prsP x.ps) (fun _ h => psP_get h.2.2.2.1 hx) ?_
  refine aE (aE (aR ?_))
  refine aF s24 t22 rfl rfl rfl (Rd.blk (ix 1 rfl) rfl) rfl rfl ?_
  refine aF s40 t3 rfl rfl rfl (Rd.loc (i := 0) rfl rfl) rfl rfl ?_
  refine aQ (q_index Try.underlying22 t33 rfl (ix 3 rfl) (by simp) rfl rfl (lt_of_get hx)) rfl ?_
  refine aF s33 t4 rfl rfl rfl (Rd.sl (ix 3 rfl) (map_get hx) rfl) rfl rfl ?_
  refine aN (aT ?_)
  refine At.cond rfl (fun hr => ?_) (fun hr => ?_)
  ·
   obtain ⟨l, r, rfl, hl, hr2⟩ : ∃ l r, s1 = .node i l r ∧ Hangs t.p.ns l x.left ∧ Hangs t.p.ns r x.right := by
    rcases hc with ⟨h, _⟩ | ⟨_, h⟩
    ·rw [show x.route = true from hr] at h; cases h
    ·exact h
   simp only [Sh.size] at hsz1
   have hst := hW.step hxg hl hr2
   refine At.skip (aT (At.block (aE (aR ?_))))
   refine aF s24 t22 rfl rfl rfl (Rd.blk (ix 1 rfl) rfl) rfl rfl ?_
   refine aF s40 t3 rfl rfl rfl (Rd.loc (i := 0) rfl rfl) rfl rfl ?_
   refine aQ (q_index Try.underlying22 t33 rfl (ix 3 rfl) (by simp) rfl rfl (lt_of_get hx)) rfl ?_
   refine aQ (q_loadS t33 rfl (RdS.sl0 (ix 3 rfl) (map_get hx)) rfl) rfl ?_
   refine At.loud (l_alloc t33) rfl ?_
   rintro _ _ _ ⟨b4, rfl, rfl, rfl⟩
   refine At.loudN (l_store t33 rfl rfl (i := 0) rfl rfl rfl rfl) ?_
   rintro _ _ _ ⟨rfl, rfl⟩
   refine aN (aT (aE (aR ?_)))
   refine aS 1 rfl rfl ?_
   refine aF s33 t3 rfl rfl rfl (Rd.loc (i := 0) rfl rfl) rfl rfl ?_
   refine aS 1 rfl rfl ?_
   refine aS 1 rfl rfl ?_
   refine aN (aT ?_)
   refine At.front 3 rfl ?_
   refine At.front 3 rfl ?_
   refine At.front 3 rfl ?_
   refine At.cutD (ι := (Option Addr × Nat × Seg) × (Option Addr × Nat × Seg)) (.s (.s (.s .z))) [33, 34, 35, 36, 37, 38, 39, 40, 41, 42, 43, 44, 45] (fun ⟨⟨a3, c3, M3⟩, ⟨a4, c4, M4⟩⟩ => []) (fun ⟨⟨a3, c3, M3⟩, ⟨a4, c4, M4⟩⟩ => []) (fun ⟨⟨a3, c3, M3⟩, ⟨a4, c4, M4⟩⟩ => [[(b3, .cells #[.int .i64 (i : Int), .slice a3 (n1 + 1) c3, .slice a4 (n2 + 1) c4] 40 (0, 0))], M3, M4]) (fun ⟨⟨a3, c3, M3⟩, ⟨a4, c4, M4⟩⟩ => Own 3 1 ((us ++ [(i : Int)]).map rowI) a3 c3 M3 ∧ Own 4 1 ((rs ++ [decide (x.key ≤ key)]).map rowB) a4 c4 M4) ?_ ?_
   ·
    refine At.draw 12 (.q 0 (.q 1 (.q 2 (.q 3 (.q 6 (.q 7 (.q 8 (.t 4 (.t 5 (.q 11 (.o 9 (.o 10 (.e)))) 9 (.o 5 (.q 11 (.o 10 (.e))))) 9 (.o 4 (.o 5 (.q 11 (.o 10 (.e))))))))))))) (_ :: _ :: _ :: L₀) (k_ (d_ (d_ (k_ (k_ r_))))) mixed (by kernel_rfl) rfl ?_
    refine oQ rfl (q_fieldAddr s40 rfl rfl rfl) rfl (cT (cI (cT (cI (cT cP))))) ?_
    refine oQ rfl (q_load t37 rfl (Rd.loc (i := 0) rfl rfl)) rfl (cT (cI (cT (cI (cT cP))))) ?_
    refine oQ rfl (q_fieldAddr s40 rfl rfl rfl) rfl (cT (cI (cT (cI (cT cP))))) ?_
    refine oQ rfl (q_load t3 rfl (Rd.loc (i := 0) rfl rfl)) rfl (cT (cI (cT (cI (cT cP))))) ?_
    refine oQ rfl (q_fieldAddr s40 rfl rfl rfl) rfl (cT (cI (cT (cI (cT cP))))) ?_
    refine oQ rfl (q_load t38 rfl (Rd.loc (i := 0) rfl rfl)) rfl (cT (cI (cT (cI (cT cP))))) ?_
    refine oQ rfl (q_move rfl) rfl (cT (cI (cT (cI (cT cP))))) ?_
    refine AtO.two ?_ ?_
    ·
     refine AtO.loud rfl (l_buildSlice Try.underlying37 t3 rfl rfl rfl rfl rfl) rfl (by rintro _ _ _ ⟨_, rfl, rfl, rfl⟩; exact ⟨fun _ h => h, d_ (k_ (d_ (d_ (k_ (k_ r_)))))⟩) ?_
     rintro _ _ _ ⟨b5, rfl, rfl, rfl⟩
     refine AtO.two ?_ ?_
     ·
      refine AtO.loud rfl (l_append rfl Try.underlying37 t3 rfl rfl hO1 (by simp; omega) (i := 2) rfl rfl (news := [rowI (i : Int)]) (by simp [rowI]) (RdS.loc (i := 0) rfl (m := 1) rfl) rfl rfl rfl (by omega) (by unfold maxLen; omega)) rfl (by rintro _ _ _ ⟨_, _, _, rfl, _, rfl, rfl⟩; exact ⟨fun _ h => h, (d_ (k_ (d_ (d_ (k_ (k_ r_))))))⟩) ?_
      rintro _ _ _ ⟨a3, c3, M3, rfl, ow3, rfl, rfl⟩
      refine oQ rfl (q_fieldAddr s40 rfl rfl rfl) rfl (cT (cI (cT (cI (cT cP))))) ?_
      refine AtO.loud rfl (l_buildSlice Try.underlying38 t4 rfl rfl rfl rfl rfl) rfl (by rintro _ _ _ ⟨_, rfl, rfl, rfl⟩; exact ⟨fun _ h => h, d_ (d_ (k_ (d_ (d_ (k_ (k_ r_))))))⟩) ?_
      rintro _ _ _ ⟨b6, rfl, rfl, rfl⟩
      refine AtO.loudA rfl (l_append rfl Try.underlying38 t4 rfl rfl hO2 (by simp; omega) (i := 4) rfl rfl (news := [rowB (decide (x.key ≤ key))]) (by simp [rowB]) (RdS.loc (i := 0) rfl (m := 1) rfl) rfl rfl rfl (by omega) (by unfold maxLen; omega)) rfl (by rintro _ _ _ ⟨_, _, _, rfl, _, rfl, rfl⟩; exact ⟨fun _ h => h, (d_ (d_ (k_ (d_ (d_ (k_ (k_ r_)))))))⟩) ?_
      rintro _ _ _ ⟨a4, c4, M4, rfl, ow4, rfl, rfl⟩
      refine AtO.done ?_
      refine At.loudN (l_store t37 rfl rfl (i := 2) rfl rfl rfl rfl) ?_
      rintro _ _ _ ⟨rfl, rfl⟩
      refine aQ (q_fieldAddr s40 rfl rfl rfl) rfl ?_
      refine At.loudN (l_store t38 rfl rfl (i := 2) rfl rfl rfl rfl) ?_
      rintro _ _ _ ⟨rfl, rfl⟩
      refine aN ?_
      refine At.front 4 rfl ?_
      refine At.front 4 rfl ?_
      refine At.front 4 rfl ?_
      refine aT ?_
      exact At.meetK (⟨a3, c3, M3⟩, ⟨a4, c4, M4⟩) ⟨by simpa using ow3, by simpa using ow4⟩ (Tells.meet 13 trivial rfl rfl) (fun _ h => h) (k_ (k_ (k_ (d_ (d_ r_)))))
     ·
      refine AtO.loud rfl (l_buildSlice Try.underlying38 t4 rfl rfl rfl rfl rfl) rfl (by rintro _ _ _ ⟨_, rfl, rfl, rfl⟩; exact ⟨fun _ h => h, d_ (d_ (k_ (d_ (d_ (k_ (k_ r_))))))⟩) ?_
      rintro _ _ _ ⟨b7, rfl, rfl, rfl⟩
      refine AtO.loud rfl (l_append rfl Try.underlying37 t3 rfl rfl hO1 (by simp; omega) (i := 3) rfl rfl (news := [rowI (i : Int)]) (by simp [rowI]) (RdS.loc (i := 1) rfl (m := 1) rfl) rfl rfl rfl (by omega) (by unfold maxLen; omega)) rfl (by rintro _ _ _ ⟨_, _, _, rfl, _, rfl, rfl⟩; exact ⟨fun _ h => h, (d_ (d_ (k_ (d_ (d_ (k_ (k_ r_)))))))⟩) ?_
      rintro _ _ _ ⟨a3, c3, M3, rfl, ow3, rfl, rfl⟩
      refine oQ rfl (q_fieldAddr s40 rfl rfl rfl) rfl (cT (cI (cT (cI (cT cP))))) ?_
      refine AtO.loudA rfl (l_append rfl Try.underlying38 t4 rfl rfl hO2 (by simp; omega) (i := 4) rfl rfl (news := [rowB (decide (x.key ≤ key))]) (by simp [rowB]) (RdS.loc (i := 0) rfl (m := 1) rfl) rfl rfl rfl (by omega) (by unfold maxLen; omega)) rfl (by rintro _ _ _ ⟨_, _, _, rfl, _, rfl, rfl⟩; exact ⟨fun _ h => h, (d_ (d_ (k_ (d_ (d_ (k_ (k_ r_)))))))⟩) ?_
      rintro _ _ _ ⟨a4, c4, M4, rfl, ow4, rfl, rfl⟩
      refine AtO.done ?_
      refine At.loudN (l_store t37 rfl rfl (i := 2) rfl rfl rfl rfl) ?_
      rintro _ _ _ ⟨rfl, rfl⟩
      refine aQ (q_fieldAddr s40 rfl rfl rfl) rfl ?_
      refine At.loudN (l_store t38 rfl rfl (i := 2) rfl rfl rfl rfl) ?_
      rintro _ _ _ ⟨rfl, rfl⟩
      refine aN ?_
      refine At.front 4 rfl ?_
      refine At.front 4 rfl ?_
      refine At.front 4 rfl ?_
      refine aT ?_
      exact At.meetK (⟨a3, c3, M3⟩, ⟨a4, c4, M4⟩) ⟨by simpa using ow3, by simpa using ow4⟩ (Tells.meet 13 trivial rfl rfl) (fun _ h => h) (k_ (k_ (k_ (d_ (d_ r_)))))
    ·
     refine AtO.loud rfl (l_buildSlice Try.underlying38 t4 rfl rfl rfl rfl rfl) rfl (by rintro _ _ _ ⟨_, rfl, rfl, rfl⟩; exact ⟨fun _ h => h, d_ (k_ (d_ (d_ (k_ (k_ r_)))))⟩) ?_
     rintro _ _ _ ⟨b8, rfl, rfl, rfl⟩
     refine AtO.loud rfl (l_buildSlice Try.underlying37 t3 rfl rfl rfl rfl rfl) rfl (by rintro _ _ _ ⟨_, rfl, rfl, rfl⟩; exact ⟨fun _ h => h, d_ (d_ (k_ (d_ (d_ (k_ (k_ r_))))))⟩) ?_
     rintro _ _ _ ⟨b9, rfl, rfl, rfl⟩
     refine AtO.loud rfl (l_append rfl Try.underlying37 t3 rfl rfl hO1 (by simp; omega) (i := 3) rfl rfl (news := [rowI (i : Int)]) (by simp [rowI]) (RdS.loc (i := 0) rfl (m := 1) rfl) rfl rfl rfl (by omega) (by unfold maxLen; omega)) rfl (by rintro _ _ _ ⟨_, _, _, rfl, _, rfl, rfl⟩; exact ⟨fun _ h => h, (d_ (d_ (k_ (d_ (d_ (k_ (k_ r_)))))))⟩) ?_
     rintro _ _ _ ⟨a3, c3, M3, rfl, ow3, rfl, rfl⟩
     refine oQ rfl (q_fieldAddr s40 rfl rfl rfl) rfl (cT (cI (cT (cI (cT cP))))) ?_
     refine AtO.loudA rfl (l_append rfl Try.underlying38 t4 rfl rfl hO2 (by simp; omega) (i := 4) rfl rfl (news := [rowB (decide (x.key ≤ key))]) (by simp [rowB]) (RdS.loc (i := 1) rfl (m := 1) rfl) rfl rfl rfl (by omega) (by unfold maxLen; omega)) rfl (by rintro _ _ _ ⟨_, _, _, rfl, _, rfl, rfl⟩; exact ⟨fun _ h => h, (d_ (d_ (k_ (d_ (d_ (k_ (k_ r_)))))))⟩) ?_
     rintro _ _ _ ⟨a4, c4, M4, rfl, ow4, rfl, rfl⟩
     refine AtO.done ?_
     refine At.loudN (l_store t37 rfl rfl (i := 2) rfl rfl rfl rfl) ?_
     rintro _ _ _ ⟨rfl, rfl⟩
     refine aQ (q_fieldAddr s40 rfl rfl rfl) rfl ?_
     refine At.loudN (l_store t38 rfl rfl (i := 2) rfl rfl rfl rfl) ?_
     rintro _ _ _ ⟨rfl, rfl⟩
     refine aN ?_
     refine At.front 4 rfl ?_
     refine At.front 4 rfl ?_
     refine At.front 4 rfl ?_
     refine aT ?_
     exact At.meetK (⟨a3, c3, M3⟩, ⟨a4, c4, M4⟩) ⟨by simpa using ow3, by simpa using ow4⟩ (Tells.meet 13 trivial rfl rfl) (fun _ h => h) (k_ (k_ (k_ (d_ (d_ r_)))))
   intro j0 hMt
   obtain ⟨⟨a3, c3, M3⟩, ⟨a4, c4, M4⟩⟩ := j0
   obtain ⟨hO3, hO4⟩ := hMt
   refine aE (aR ?_)
   refine aF s33 t3 rfl rfl rfl (Rd.loc (i := 3) rfl rfl) rfl rfl ?_
   refine aQ (q_fieldAddr s40 rfl rfl rfl) rfl ?_
   refine At.loudN (l_store t3 rfl rfl (i := 0) rfl rfl rfl rfl) ?_
   rintro _ _ _ ⟨rfl, rfl⟩
   refine aN (aT (aE (aR ?_)))
   refine aS 1 rfl rfl ?_
   refine aN (aT ?_)
   refine At.if rfl (fun hk => ?_) (fun hk => ?_)
   ·
    refine aR ?_
    refine aF s33 t3 rfl rfl rfl (Rd.loc (i := 3) rfl rfl) rfl rfl ?_
    refine aQ (q_fieldAddr s40 rfl rfl rfl) rfl ?_
    refine At.loudN (l_store t3 rfl rfl (i := 0) rfl rfl rfl rfl) ?_
    rintro _ _ _ ⟨rfl, rfl⟩
    refine aN (At.inNormal ?_)
    refine At.front 2 rfl ?_
    refine At.front 2 rfl ?_
    refine At.front 2 rfl ?_
    refine aT ?_
    exact At.againK (r, x.right, (n1 + 1, us ++ [(i : Int)], a3, c3, M3), (n2 + 1, rs ++ [true], a4, c4, M4)) ⟨hst.2 hk, hO3, by rw [decide_eq_true hk] at hO4; exact hO4, by simp; omega, by simp [hrl], by simp [hn1], by simp [hn2]⟩ (by simp only [Sh.size]; omega) (Tells.end 26 trivial rfl rfl) (fun _ h => h.2) (k_ (k_ (k_ (d_ r_))))
   ·
    refine At.skip (At.inNormal ?_)
    refine At.front 2 rfl ?_
    refine At.front 2 rfl ?_
    refine At.front 2 rfl ?_
    refine aT ?_
    exact At.againK (l, x.left, (n1 + 1, us ++ [(i : Int)], a3, c3, M3), (n2 + 1, rs ++ [false], a4, c4, M4)) ⟨hst.1 (by omega), hO3, by rw [decide_eq_false (by omega)] at hO4; exact hO4, by simp; omega, by simp [hrl], by simp [hn1], by simp [hn2]⟩ (by simp only [Sh.size]; omega) (Tells.end 23 trivial rfl rfl) (fun _ h => h.2) (k_ (k_ (k_ (d_ r_))))
  ·
   obtain rfl : s1 = .leaf i := by
    rcases hc with ⟨_, h⟩ | ⟨h, _⟩
    ·exact h
    ·rw [show x.route = false from hr] at h; cases h
   obtain ⟨hd1, hd2, hd3⟩ := hW.done
   subst hn1
   subst hn2
   refine At.freezeOwn 1 hO1 rfl ?_
   refine At.freezeOwn 1 hO2 rfl ?_
   refine At.exit (At.thenExit (At.thenExit (At.inHere rfl (aT (aE (aR ?_))))))
   refine aQ (q_loadS t40 rfl (RdS.loc (i := 0) rfl (m := 3) rfl) rfl) rfl ?_
   refine At.loudN (l_store t40 rfl rfl (i := 1) rfl rfl rfl rfl) ?_
   rintro _ _ _ ⟨rfl, rfl⟩
   refine aS 1 rfl rfl ?_
   refine aN (aT (At.ret ?_))
   exact At.results (Γr := [intsP ⟨a1, c1, us⟩, boolsP ⟨a2, c2, rs⟩]) (M := []) rfl (RVals.cons (RVal.cellS rfl t40 (RdS.loc (i := 1) rfl (m := 3) rfl) rfl) (RVals.cons (RVal.tmp rfl) RVals.nil)) (ix 4 rfl) (fun _ h => ⟨h.2.1, h.1, trivial⟩) (d_ (d_ r_)) ⟨⟨a1, c1, us⟩, ⟨a2, c2, rs⟩, by rw [not_f hm, hd1]; rfl, rfl, rfl, hd2, hd3⟩
theorem one31 (l : Sl Pr) (hl : l.l.length ≤ 1000000) : Con Try.prog 31 [l.val] [prsP l] [] (OneEnd l.l) := by
 refine Con.body 11 Try.func31 rfl Try.ntmps31 rfl fun X H₀ L₀ => ?_
 refine aE (aR ?_)
 refine At.loud (l_alloc t24) rfl ?_
 rintro _ _ _ ⟨b1, rfl, rfl, rfl⟩
 refine aN (aT (aE (aE (aR ?_))))
 refine aS 1 rfl rfl ?_
 refine At.call en71 rfl (may71 _) (fun _ h => ⟨h.2.1, trivial⟩) (List.Perm.refl _) rfl ?_
 rintro _ _ _ ⟨rfl, rfl, rfl⟩
 refine aS 1 rfl rfl ?_
 refine aN (aT ?_)
 refine At.cond rfl (fun hr => ?_) (fun hr => ?_)
 ·
  refine At.know (prsP ⟨none, 0, []⟩) (fun _ h => sl_nil _ _ _ (Nat.zero_le _)) ?_
  refine aR ?_
  refine aS 1 rfl rfl ?_
  refine aN (aT (aE (aR ?_)))
  refine aS 1 rfl rfl ?_
  refine At.call en72 rfl (clone72 ⟨none, 0, []⟩ (by simp)) (fun _ h => ⟨h.1, trivial⟩) (List.Perm.refl _) rfl ?_
  rintro _ _ _ ⟨s0, rfl, hs0, rfl, rfl⟩
  refine aQ (q_build t33 s33 rfl rfl) rfl ?_
  refine At.loud (l_buildSlice Try.underlying22 t33 rfl rfl rfl rfl rfl) rfl ?_
  rintro _ _ _ ⟨b2, rfl, rfl, rfl⟩
  refine At.freeze 0 (φ := ndsP ⟨some ⟨b2, 0, none⟩, 1, [⟨false, 0, 0, 0, s0, 0⟩]⟩) rfl (fun _ h => sl_of_block h rfl (by simp [rowN]) rfl (show (1 : Nat) ≤ maxLen from by decide)) ?_
  refine At.know (psP [⟨false, 0, 0, 0, s0, 0⟩]) (fun _ h => psP_cons (n := ⟨false, 0, 0, 0, s0, 0⟩) h.2.1 psP_nil) ?_
  refine aQ (q_build t24 s24 rfl rfl) rfl ?_
  refine At.loudN (l_store t24 rfl rfl (i := 0) rfl rfl rfl rfl) ?_
  rintro _ _ _ ⟨rfl, rfl⟩
  refine aN (aT (At.ret ?_))
  exact At.results (Γr := [_, _]) (M := []) rfl (RVals.cons (RVal.cellS rfl t24 (RdS.loc (i := 0) rfl (m := 2) rfl) rfl) RVals.nil) (ix 4 rfl) (fun _ h => ⟨h.2.1, h.1, trivial⟩) (d_ r_) ⟨⟨0, ⟨some ⟨_, 0, none⟩, 1, [⟨false, 0, 0, 0, s0, 0⟩]⟩⟩, rfl, rfl, rfl, by simp [oneT, Tr.p, Nd.p, hs0, not_t hr]⟩
 ·
  refine At.skip (aT (aE (aR ?_)))
  refine aS 1 rfl rfl ?_
  refine At.call en72 rfl (clone72 l (by simpa using hl)) (fun _ h => ⟨h.2.1, trivial⟩) (List.Perm.refl _) rfl ?_
  rintro _ _ _ ⟨s0, rfl, hs0, rfl, rfl⟩
  refine aQ (q_build t33 s33 rfl rfl) rfl ?_
  refine At.loud (l_buildSlice Try.underlying22 t33 rfl rfl rfl rfl rfl) rfl ?_
  rintro _ _ _ ⟨b3, rfl, rfl, rfl⟩
  refine At.freeze 0 (φ := ndsP ⟨some ⟨b3, 0, none⟩, 1, [⟨false, 0, 0, 0, s0, 0⟩]⟩) rfl (fun _ h => sl_of_block h rfl (by simp [rowN]) rfl (show (1 : Nat) ≤ maxLen from by decide)) ?_
  refine At.know (psP [⟨false, 0, 0, 0, s0, 0⟩]) (fun _ h => psP_cons (n := ⟨false, 0, 0, 0, s0, 0⟩) h.2.1 psP_nil) ?_
  refine aQ (q_build t24 s24 rfl rfl) rfl ?_
  refine At.loudN (l_store t24 rfl rfl (i := 0) rfl rfl rfl rfl) ?_
  rintro _ _ _ ⟨rfl, rfl⟩
  refine aN (aT (At.ret ?_))
  exact At.results (Γr := [_, _]) (M := []) rfl (RVals.cons (RVal.cellS rfl t24 (RdS.loc (i := 0) rfl (m := 2) rfl) rfl) RVals.nil) (ix 3 rfl) (fun _ h => ⟨h.2.1, h.1, trivial⟩) (d_ r_) ⟨⟨0, ⟨some ⟨_, 0, none⟩, 1, [⟨false, 0, 0, 0, s0, 0⟩]⟩⟩, rfl, rfl, rfl, by simp [oneT, Tr.p, Nd.p, hs0, not_f hr]⟩
theorem top27 (p : PathS) : Con Try.prog 27 [p.val] [] [] (fun v Γ M => v = .bool (decide (p.ups.l = [])) ∧ Γ = [] ∧ M = []) := by
 refine Con.body 7 Try.func27 rfl Try.ntmps27 rfl fun X H₀ L₀ => ?_
 refine aE (aR ?_)
 refine At.loud (l_box rfl) rfl ?_
 rintro _ _ _ ⟨b1, rfl, rfl, rfl⟩
 refine At.freeze 0 (φ := blk b1 _) rfl (fun _ h => blk_def.2 ⟨_, _, h⟩) ?_
 refine aS 1 rfl rfl ?_
 refine aN (aT (aE (aR ?_)))
 refine aF s40 t37 rfl rfl rfl (Rd.blk (.head _) rfl) rfl rfl ?_
 refine aQ (q_len Try.underlying37 rfl) rfl ?_
 refine aS 2 rfl rfl ?_
 refine aN (aT (At.ret ?_))
 exact At.results (Γr := []) (M := []) rfl (RVals.cons (RVal.tmp rfl) RVals.nil) (ix 1 rfl) (fun _ _ => trivial) r_ ⟨congrArg Value.bool (decide_len_zero p.ups.l), rfl, rfl⟩
theorem right32 (p : PathS) : Con Try.prog 32 [p.val] [boolsP p.rights] [] (fun v Γ M => v = .bool (p.rights.l.getLast?.getD false) ∧ Γ = [] ∧ M = []) := by
 refine Con.body 17 Try.func32 rfl Try.ntmps32 rfl fun X H₀ L₀ => ?_
 refine At.lenOf (hs := (ix 1 rfl)) fun hlen => ?_
 rw [List.length_map] at hlen
 refine aE (aR ?_)
 refine At.loud (l_box rfl) rfl ?_
 rintro _ _ _ ⟨b1, rfl, rfl, rfl⟩
 refine At.freeze 0 (φ := blk b1 _) rfl (fun _ h => blk_def.2 ⟨_, _, h⟩) ?_
 refine aS 1 rfl rfl ?_
 refine aN (aT (aE (aR ?_)))
 refine aF s40 t38 rfl rfl rfl (Rd.blk (.head _) rfl) rfl rfl ?_
 refine aQ (q_len Try.underlying38 rfl) rfl ?_
 refine aQ (q_sub rfl rfl (by omega) (by omega)) rfl ?_
 refine aS 1 rfl rfl ?_
 refine aN (aT (aE (aR ?_)))
 refine aS 3 rfl rfl ?_
 refine At.splitP (d := 10) rfl (fun h0 => ?_) (fun h0 => ?_)
 ·
  obtain ⟨j, hj⟩ : ∃ j : Nat, p.rights.l.length = j + 1 := ⟨p.rights.l.length - 1, by omega⟩
  obtain ⟨x, hx⟩ := get_of_lt (l := p.rights.l) (i := j) (by omega)
  refine At.open rfl rfl ?_
  refine aQ (q_fieldAddr s40 rfl rfl rfl) rfl ?_
  refine At.open rfl rfl ?_
  refine aQ (q_load t38 rfl (Rd.blk (.head _) rfl)) rfl ?_
  refine aS 1 rfl rfl ?_
  refine At.open rfl rfl ?_
  refine aQ (q_index Try.underlying38 t4 rfl (ix 2 rfl) (by simp) rfl (by omega) (lt_of_get hx)) rfl ?_
  refine At.open rfl rfl ?_
  refine aQ (q_load t4 rfl (Rd.sl0 (ix 2 rfl) (map_get hx) rfl)) rfl ?_
  refine aS 2 rfl rfl ?_
  refine aN (aT (At.ret ?_))
  exact At.results (Γr := []) (M := []) rfl (RVals.cons (RVal.tmp rfl) RVals.nil) (ix 1 rfl) (fun _ _ => trivial) r_ ⟨congrArg Value.bool (last_get hj hx), rfl, rfl⟩
 ·
  refine aS 7 rfl rfl ?_
  refine aN (aT (At.ret ?_))
  exact At.results (Γr := []) (M := []) rfl (RVals.cons (RVal.tmp rfl) RVals.nil) (ix 1 rfl) (fun _ _ => trivial) r_ ⟨congrArg Value.bool (by rw [List.eq_nil_of_length_eq_zero (l := p.rights.l) (by omega)]; rfl), rfl, rfl⟩
theorem light20 (t : Tr) (hsm : ∀ n ∈ t.ns.l, n.ps.l.length ≤ 8796093022208) : Con Try.prog 20 [t.val] [ndsP t.ns] [] (fun v Γ M => v = .int .i64 (if lightT t.p then 0 else 1) ∧ Γ = [] ∧ M = []) := by
 refine Con.body 27 Try.func20 rfl Try.ntmps20 rfl fun X H₀ L₀ => ?_
 refine At.lenOf (hs := (ix 1 rfl)) fun hlen => ?_
 rw [List.length_map] at hlen
 refine aE (aR ?_)
 refine At.loud (l_box rfl) rfl ?_
 rintro _ _ _ ⟨b1, rfl, rfl, rfl⟩
 refine At.freeze 0 (φ := blk b1 _) rfl (fun _ h => blk_def.2 ⟨_, _, h⟩) ?_
 refine aS 1 rfl rfl ?_
 refine aN (aT (aE (aR ?_)))
 refine aS 1 rfl rfl ?_
 refine aN (aT (aE (aE (aR ?_))))
 refine aF s24 t22 rfl rfl rfl (Rd.blk (.head _) rfl) rfl rfl ?_
 refine aQ (q_len Try.underlying22 rfl) rfl ?_
 refine aS 1 rfl rfl ?_
 refine aN (aT (At.block ?_))
 refine At.loopK (ι := Nat) [3, 5, 9, 10, 11, 12, 13, 14, 15, 16, 17, 18] (fun k => [(9, .int .i64 (k : Int)), (3, .int .i64 (IntKind.i64.wrap (pairsUpto t.p.ns k : Nat)))]) (fun k => []) (fun k => []) _ (fun k => k ≤ t.ns.l.length) (fun k => t.ns.l.length - k) 0 (Nat.zero_le _) ⟨rfl, rfl, trivial⟩ (fun _ _ => trivial) r_ ?_
 intro k hk0
 refine aE (aR ?_)
 refine aS 1 rfl rfl ?_
 refine aN (aT (aE ?_))
 refine At.if rfl (fun hk => ?_) (fun hk => ?_)
 ·
  obtain ⟨x, hx⟩ := get_of_lt (l := t.ns.l) (i := k) (by omega)
  have hk1 := lt_of_get hx
  have hxp : t.p.ns[k]? = some x.p := map_get hx
  refine At.skip (aT (aE (At.block (aE (aR ?_)))))
  refine aQ (q_index Try.underlying22 t33 rfl (ix 2 rfl) (by simp) rfl rfl (lt_of_get hx)) rfl ?_
  refine aQ (q_loadS t33 rfl (RdS.sl0 (ix 2 rfl) (map_get hx)) rfl) rfl ?_
  refine At.loud (l_alloc t33) rfl ?_
  rintro _ _ _ ⟨b2, rfl, rfl, rfl⟩
  refine At.loudN (l_store t33 rfl rfl (i := 0) rfl rfl rfl rfl) ?_
  rintro _ _ _ ⟨rfl, rfl⟩
  refine aN (aT (aR ?_))
  refine aS 1 rfl rfl ?_
  refine aF s33 t31 rfl rfl rfl (Rd.loc (i := 0) rfl rfl) rfl rfl ?_
  refine aQ (q_len Try.underlying31 rfl) rfl ?_
  refine aQ (q_addK rfl rfl) rfl ?_
  refine aS 1 rfl rfl ?_
  refine aN (At.inNormal (aT (aR ?_)))
  refine aQ (q_add rfl rfl (by omega) (by omega)) rfl ?_
  refine aS 1 rfl rfl ?_
  refine aN ?_
  refine At.say 3 (.int .i64 (IntKind.i64.wrap (pairsUpto t.p.ns (k + 1) : Nat))) rfl (by rw [wrap_add, pairs_step hxp]; rfl) ?_
  refine aT ?_
  exact At.againK (k + 1) hk1 (by (try dsimp only); omega) (Tells.end 15 ⟨rfl, rfl, trivial⟩ rfl rfl) (fun _ h => h) (d_ r_)
 ·
  obtain rfl : k = t.ns.l.length := by omega
  have hN : t.p.ns.length = t.ns.l.length := by simp [Tr.p]
  have hple := pairs_le (l := t.p.ns) (b := 8796093022208) (fun n hn => by obtain ⟨x, hx, rfl⟩ := List.mem_map.1 hn; exact hsm x hx) t.ns.l.length (by omega)
  refine At.exit (At.thenExit (At.thenExit (At.inHere rfl (aT (aE (aE (aR ?_)))))))
  refine aF s24 t22 rfl rfl rfl (Rd.blk (.head _) rfl) rfl rfl ?_
  refine aQ (q_len Try.underlying22 rfl) rfl ?_
  refine aS 2 rfl rfl ?_
  refine At.splitP (d := 23) rfl (fun hn2 => ?_) (fun hn2 => ?_)
  ·
   refine aS 3 rfl rfl ?_
   refine aN (aT ?_)
   refine At.condT rfl ?_
   refine aE (aR ?_)
   refine aS 1 rfl rfl ?_
   refine aN (aT (At.ret (At.thenRet ?_)))
   exact At.results (Γr := []) (M := []) rfl (RVals.cons (RVal.tmp rfl) RVals.nil) (ix 1 rfl) (fun _ _ => trivial) r_ ⟨congrArg (Value.int .i64) (by simp only [lightT, hN]; rw [decide_eq_false (by omega)]; rfl), rfl, rfl⟩
  ·
   have hw : IntKind.i64.wrap (pairsUpto t.p.ns t.ns.l.length : Nat) = (pairsUpto t.p.ns t.ns.l.length : Nat) := wrapI (by omega) (by omega)
   refine aS 3 rfl rfl ?_
   refine aN (aT ?_)
   refine At.if rfl (fun hp2 => ?_) (fun hp2 => ?_)
   ·
    refine aE (aR ?_)
    refine aS 1 rfl rfl ?_
    refine aN (aT (At.ret (At.thenRet ?_)))
    exact At.results (Γr := []) (M := []) rfl (RVals.cons (RVal.tmp rfl) RVals.nil) (ix 1 rfl) (fun _ _ => trivial) r_ ⟨congrArg (Value.int .i64) (by simp only [lightT, hN]; rw [decide_eq_true (p := t.ns.l.length ≤ 450) (by omega), decide_eq_false (by omega)]; rfl), rfl, rfl⟩
   ·
    refine At.skip (aT (aE (aR ?_)))
    refine aS 1 rfl rfl ?_
    refine aN (aT (At.ret ?_))
    exact At.results (Γr := []) (M := []) rfl (RVals.cons (RVal.tmp rfl) RVals.nil) (ix 1 rfl) (fun _ _ => trivial) r_ ⟨congrArg (Value.int .i64) (by simp only [lightT, hN]; rw [decide_eq_true (p := t.ns.l.length ≤ 450) (by omega), decide_eq_true (by omega)]; rfl), rfl, rfl⟩
end Go.Proofs.Ytmkodknmknfdkaa
set_option linter.unusedVariables false
set_option linter.unusedSimpArgs false
namespace Go.Proofs.Ytmkodknmknfdkaa
open E
section
variable {t : PT} {a : Int} {i : Nat} {l : List Pr} {stat : Int} {n : Nod}
theorem set_no1 (h : (mayT t).isSome = false) : setT t a l stat = none := by simp [setT, none_of h]
theorem set_no2 (h : a < 0) : setT t a l stat = none := by simp [setT, h]
theorem set_no3 (h : t.ns.length ≤ i) : setT t (i : Int) l stat = none := by
 have : t.ns[i]? = none := List.getElem?_eq_none h
 simp [setT, this]
theorem set_no4 (hn : t.ns[i]? = some n) (h : n.route = true) : setT t (i : Int) l stat = none := by
 simp [setT, hn, h]
theorem set_no5 (hn : t.ns[i]? = some n) (hr : n.route = false) (h : (mayT ⟨t.root, t.ns.set i { n with l := l, stat := stat }⟩).isSome = false) : setT t (i : Int) l stat = none := by
 unfold setT
 split
 ·rfl
 split
 ·rfl
 simp only [Int.toNat_natCast, hn]
 rw [if_neg (by rw [hr]; decide), none_of h]
 rfl
theorem set_ok {s : Sh} (hs : mayT t = some s) (hn : t.ns[i]? = some n) (hr : n.route = false) (h : (mayT ⟨t.root, t.ns.set i { n with l := l, stat := stat }⟩).isSome = true) :
  setT t (i : Int) l stat = some ⟨t.root, t.ns.set i { n with l := l, stat := stat }⟩ := by
 have h0 : ¬ ((i : Int) < 0) := by omega
 unfold setT
 rw [if_neg (by simp [hs]), if_neg h0]
 simp only [Int.toNat_natCast, hn]
 obtain ⟨s', hs'⟩ := Option.isSome_iff_exists.1 h
 rw [if_neg (by rw [hr]; decide), if_neg (by rw [hs']; simp)]
end
theorem set_step_at {t : Tr} {i : Nat} {x : Nd} {l : Sl Pr} {stat : Int} {o : List Nd} {s0 : Sl Pr} (ho : o.map Nd.p = (t.p.ns.set i { x.p with l := l.l, stat := stat }).take i) (hs : s0.l = l.l) (hx : t.p.ns[i]? = some x.p) :
  (o ++ [({ x with ps := s0, stat := stat } : Nd)]).map Nd.p = (t.p.ns.set i { x.p with l := l.l, stat := stat }).take (i + 1) := by
 have hi := lt_of_get hx
 rw [List.take_succ_eq_append_getElem (by simpa using hi), List.map_append, ho]
 simp [Nd.p, hs]
theorem set_step_ne {t : Tr} {i k : Nat} {x : Nod} {y : Nd} {o : List Nd} {s0 : Sl Pr} (ho : o.map Nd.p = (t.p.ns.set i x).take k) (hs : s0.l = y.ps.l) (hy : t.p.ns[k]? = some y.p) (hne : k ≠ i) :
  (o ++ [({ y with ps := s0 } : Nd)]).map Nd.p = (t.p.ns.set i x).take (k + 1) := by
 have hk := lt_of_get hy
 rw [List.take_succ_eq_append_getElem (by simpa using hk), List.map_append, ho]
 rw [List.getElem_set_ne (Ne.symm hne), (List.getElem?_eq_some_iff.1 hy).2]
 simp [Nd.p, hs]
end Go.Proofs.Ytmkodknmknfdkaa
set_option linter.unusedVariables false
set_option linter.unusedSimpArgs false
namespace Go.Proofs.Ytmkodknmknfdkaa
open E
set_option maxRecDepth 4000
end Go.Proofs.Ytmkodknmknfdkaa
set_option linter.unusedVariables false
set_option linter.unusedSimpArgs false
namespace Go.Proofs.Ytmkodknmknfdkaa
open E
def CopyEnd (t : Tr) (v : Value) (Γ : List SProp) (M : E.Loc) : Prop :=
 ∃ (u : Tr) (M' : E.Seg), v = u.val ∧ Γ = [psP u.ns.l] ∧ M = [M'] ∧ E.Own 33 6 (u.ns.l.map rowN) u.ns.a u.ns.c M' ∧ u.p = t.p
theorem copy_step {t : Tr} {k : Nat} {y : Nd} {o : List Nd} {s0 : Sl Pr} (ho : o.map Nd.p = t.p.ns.take k) (hs : s0.l = y.ps.l) (hy : t.p.ns[k]? = some y.p) :
  (o ++ [({ y with ps := s0 } : Nd)]).map Nd.p = t.p.ns.take (k + 1) := by
 have hk := lt_of_get hy
 rw [List.take_succ_eq_append_getElem hk, List.map_append, ho, (List.getElem?_eq_some_iff.1 hy).2]
 simp [Nd.p, hs]
/-- A pair more, or another value: of the first pairs. -/
def withGo (p : Pr) : List Pr → Bool → List Pr
 | [], done => if done then [] else [p]
 | x :: l, done => (if !done && decide (p.k ≤ x.k) then [p] else []) ++ ((if x.k = p.k then [] else [x]) ++ withGo p l (done || decide (p.k ≤ x.k)))
def withT (l : List Pr) (p : Pr) : List Pr := withGo p l false
theorem with_step {l : List Pr} {k : Nat} {x p : Pr} {d d' : Bool} {W o q : List Pr} (hx : l[k]? = some x) (h : W = o ++ withGo p (l.drop k) d) (hd : d' = (d || decide (p.k ≤ x.k)))
  (hq : q = (if !d && decide (p.k ≤ x.k) then [p] else []) ++ (if x.k = p.k then [] else [x])) : W = (o ++ q) ++ withGo p (l.drop (k + 1)) d' := by
 have hk := lt_of_get hx
 rw [List.drop_eq_getElem_cons hk, (List.getElem?_eq_some_iff.1 hx).2] at h
 rw [h, hq, hd]
 simp only [withGo, List.append_assoc]
theorem with_end {l : List Pr} {k : Nat} {p : Pr} {d : Bool} {W o : List Pr} (hk : l.length ≤ k) (h : W = o ++ withGo p (l.drop k) d) : W = o ++ (if d then [] else [p]) := by
 rw [h, List.drop_eq_nil_of_le hk]; rfl
end Go.Proofs.Ytmkodknmknfdkaa
set_option linter.unusedVariables false
set_option linter.unusedSimpArgs false
namespace Go.Proofs.Ytmkodknmknfdkaa
open E
set_option maxRecDepth 4000
theorem en30 : Enters Try.prog 30 := Enters.mk' Try.func30 rfl rfl
theorem copy24 (t : Tr) (hsm : smallP t.ns.l) (hfew : t.ns.l.length ≤ 100000) : Con Try.prog 24 [t.val] [ndsP t.ns, psP t.ns.l] [] (CopyEnd t) := by
 refine Con.body 28 Try.func24 rfl Try.ntmps24 rfl fun X H₀ L₀ => ?_
 refine At.nilSeg ?_
 refine At.know (psP []) (fun _ h => psP_nil) ?_
 refine aE (aR ?_)
 refine At.loud (l_box rfl) rfl ?_
 rintro _ _ _ ⟨b1, rfl, rfl, rfl⟩
 refine At.freeze 0 (φ := blk b1 _) rfl (fun _ h => blk_def.2 ⟨_, _, h⟩) ?_
 refine At.loud (l_alloc t24) rfl ?_
 rintro _ _ _ ⟨b2, rfl, rfl, rfl⟩
 refine aN (aT (aE (aR ?_)))
 refine aF s24 t3 rfl rfl rfl (Rd.blk (.head _) rfl) rfl rfl ?_
 refine aQ (q_build t24 s24 rfl rfl) rfl ?_
 refine At.loud (l_alloc t24) rfl ?_
 rintro _ _ _ ⟨b3, rfl, rfl, rfl⟩
 refine At.loudN (l_store t24 rfl rfl (i := 0) rfl rfl rfl rfl) ?_
 rintro _ _ _ ⟨rfl, rfl⟩
 refine aN (aT (aE (aE (aR ?_))))
 refine aF s24 t22 rfl rfl rfl (Rd.blk (.head _) rfl) rfl rfl ?_
 refine aQ (q_len Try.underlying22 rfl) rfl ?_
 refine aS 1 rfl rfl ?_
 refine aN (aT (At.block ?_))
 refine At.front 2 rfl ?_
 refine At.front 1 rfl ?_
 refine At.loopK (ι := Nat × List Nd × Option Addr × Nat × Seg) [5, 12, 13, 14, 15, 16, 17, 18, 19, 20, 21, 22, 23, 24, 25, 26] (fun ⟨k, o, a, c, M⟩ => [(12, .int .i64 (k : Int))]) (fun ⟨k, o, a, c, M⟩ => [psP o]) (fun ⟨k, o, a, c, M⟩ => [[(b3, .cells #[.int .i64 t.root, .slice a k c] 24 (0, 0))], M]) _ (fun ⟨k, o, a, c, M⟩ => k ≤ t.ns.l.length ∧ Own 33 6 (o.map rowN) a c M ∧ o.length = k ∧ o.map Nd.p = t.p.ns.take k) (fun ⟨k, o, a, c, M⟩ => t.ns.l.length - k) (0, [], none, 0, []) ⟨Nat.zero_le _, Own.nil _ _, rfl, by simp⟩ ⟨rfl, trivial⟩ (fun _ _ => ⟨psP_nil, trivial⟩) (k_ (k_ r_)) ?_
 intro i0 hI0
 obtain ⟨k, o, a, c, M⟩ := i0
 obtain ⟨hkl, hO, hok, hoe⟩ := hI0
 refine aE (aR ?_)
 refine aS 1 rfl rfl ?_
 refine aN (aT (aE ?_))
 refine At.if rfl (fun hk => ?_) (fun hk => ?_)
 ·
  obtain ⟨y, hy⟩ := get_of_lt (l := t.ns.l) (i := k) (by omega)
  have hk1 := lt_of_get hy
  have hys := hsm y (List.mem_of_getElem? hy)
  refine At.know (prsP y.ps) (fun _ h => psP_get h.2.2.2.2.2.1 hy) ?_
  refine At.skip (aT (aE (At.block (aE (aR ?_)))))
  refine aQ (q_index Try.underlying22 t33 rfl (ix 5 rfl) (by simp) rfl rfl (lt_of_get hy)) rfl ?_
  refine aQ (q_loadS t33 rfl (RdS.sl0 (ix 5 rfl) (map_get hy)) rfl) rfl ?_
  refine At.loud (l_alloc t33) rfl ?_
  rintro _ _ _ ⟨b4, rfl, rfl, rfl⟩
  refine At.loudN (l_store t33 rfl rfl (i := 0) rfl rfl rfl rfl) ?_
  rintro _ _ _ ⟨rfl, rfl⟩
  refine aN (aT (aE (aR ?_)))
  refine aF s33 t31 rfl rfl rfl (Rd.loc (i := 0) rfl rfl) rfl rfl ?_
  refine At.loud (l_appendNew rfl Try.underlying31 t50 rfl rfl (.head _) (by simp) rfl (by omega) (by unfold maxLen; omega) rfl) rfl ?_
  rintro _ _ _ ⟨a3, c3, rfl, rfl, rfl⟩
  refine aQ (q_fieldAddr s33 rfl rfl rfl) rfl ?_
  refine At.loudN (l_store t31 rfl rfl (i := 0) rfl rfl rfl rfl) ?_
  rintro _ _ _ ⟨rfl, rfl⟩
  refine aN (aT (aR ?_))
  refine aF s24 t22 rfl rfl rfl (Rd.loc (i := 1) rfl rfl) rfl rfl ?_
  refine aQ (q_loadS t33 rfl (RdS.loc (i := 0) rfl (m := 6) rfl) rfl) rfl ?_
  refine At.loud (l_buildSlice Try.underlying22 t33 rfl rfl rfl rfl rfl) rfl ?_
  rintro _ _ _ ⟨b5, rfl, rfl, rfl⟩
  refine At.loud (l_append rfl Try.underlying22 t33 rfl rfl hO (by simp; omega) (i := 3) rfl rfl (news := [rowN { y with ps := ⟨a3, c3, y.ps.l⟩ }]) (by simp [rowN]) (RdS.loc (i := 0) rfl (m := 6) rfl) rfl rfl rfl (by omega) (by unfold maxLen; omega)) rfl ?_
  rintro _ _ _ ⟨a2, c2, M2, rfl, ow, rfl, rfl⟩
  refine aQ (q_fieldAddr s24 rfl rfl rfl) rfl ?_
  refine At.loudN (l_store t22 rfl rfl (i := 2) rfl rfl rfl rfl) ?_
  rintro _ _ _ ⟨rfl, rfl⟩
  refine aN (At.inNormal (aT (aR ?_)))
  refine At.know (psP (o ++ [{ y with ps := ⟨a3, c3, y.ps.l⟩ }])) (fun _ h => psP_snoc (n := { y with ps := ⟨a3, c3, y.ps.l⟩ }) h.2.2.1 h.1) ?_
  refine aQ (q_add rfl rfl (by omega) (by omega)) rfl ?_
  refine aS 1 rfl rfl ?_
  refine aN ?_
  refine At.front 3 rfl ?_
  refine At.front 3 rfl ?_
  refine aT ?_
  exact At.againK (k + 1, o ++ [{ y with ps := ⟨a3, c3, y.ps.l⟩ }], a2, c2, M2) ⟨hk1, by simpa using ow, by simp; omega, copy_step (s0 := ⟨a3, c3, y.ps.l⟩) hoe rfl (map_get hy)⟩ (by (try dsimp only); omega) (Tells.end 17 ⟨rfl, trivial⟩ rfl rfl) (fun _ h => ⟨h.1, h.2.2.2.2⟩) (k_ (k_ (d_ (d_ r_))))
 ·
  have hoe2 : o.map Nd.p = t.p.ns := by rw [hoe, List.take_of_length_le (by simp [Tr.p]; omega)]
  subst hok
  refine At.exit (At.thenExit (At.thenExit (At.inHere rfl (aT (aE (aR ?_))))))
  refine aQ (q_loadS t24 rfl (RdS.loc (i := 0) rfl (m := 2) rfl) rfl) rfl ?_
  refine At.loudN (l_store t24 rfl rfl (i := 2) rfl rfl rfl rfl) ?_
  rintro _ _ _ ⟨rfl, rfl⟩
  refine aN (aT (At.ret ?_))
  exact At.results (Γr := [psP o]) (M := [M]) rfl (RVals.cons (RVal.cellS rfl t24 (RdS.loc (i := 2) rfl (m := 2) rfl) rfl) RVals.nil) (ix 3 rfl) (fun _ h => ⟨h.1, trivial⟩) (d_ (k_ (d_ r_))) ⟨⟨t.root, ⟨a, c, o⟩⟩, M, rfl, rfl, rfl, hO, by simp only [Tr.p]; exact congrArg (PT.mk t.root) hoe2⟩
end Go.Proofs.Ytmkodknmknfdkaa
set_option linter.unusedVariables false
set_option linter.unusedSimpArgs false
namespace Go.Proofs.Ytmkodknmknfdkaa
open E
def leafFields (n : Nod) : Bool := decide (n.key = 0) && (decide (n.left = 0) && (decide (n.right = 0) && (rises n.l && (decide (-1000000 ≤ n.stat) && decide (n.stat ≤ 1000000)))))
theorem leafOk_eq (n : Nod) (k : Kb) : leafOk n k = (leafFields n && n.l.all (fun p => k.has p.k)) := by simp [leafOk, leafFields, Bool.and_assoc]
/-- Bounds, as slices. -/
def Kb.lo (k : Kb) : List Int := if k.isLeast then [k.least] else []
def Kb.hi (k : Kb) : List Int := if k.isMost then [k.most] else []
def planBox (t : Tr) (b : Nat) (a : Option Addr) (n : Nat) (c : Nat) (a2 : Option Addr) (c2 : Nat) (bad : Bool) : E.Seg :=
 [(b, .cells #[.int .i64 t.root, t.ns.val, .slice a n c, .slice a2 t.ns.l.length c2, .bool bad] 109 (0, 0))]
def NodeEnd (t : Tr) (f : Nat) (met : List Nat) (at_ : Int) (k : Kb) (b : Nat) (o : List Nd) (a2 : Option Addr) (c2 : Nat) (v : Value) (Γ : List SProp) (M : E.Loc) : Prop :=
 ∃ (q : List Nd) (a' : Option Addr) (c' : Nat) (M1 M2 : E.Seg) (bad : Bool) (v' : Int), v = .int .i64 v' ∧ Γ = [psP (o ++ q)] ∧ M = [planBox t b a' (o ++ q).length c' a2 c2 bad, M1, M2] ∧ E.Own 33 6 ((o ++ q).map rowN) a' c' M1 ∧
  (o ++ q).length ≤ o.length + (bits t.ns.l.length met).count false ∧
  (∀ s, shape t.p.ns f met at_ k = some s → bad = false ∧ v' = (o.length : Int) ∧ q.map Nd.p = s.lay t.p.ns o.length ∧ E.Own 4 1 ((bits t.ns.l.length (s.places ++ met)).map rowB) a2 c2 M2 ∧
   (o ++ q).length + (bits t.ns.l.length (s.places ++ met)).count false ≤ o.length + (bits t.ns.l.length met).count false) ∧
  (shape t.p.ns f met at_ k = none → bad = true)
def Node77 (t : Tr) (f : Nat) : Prop := ∀ (met : List Nat) (at_ : Int) (k : Kb) (lo hi : Sl Int) (b : Nat) (o : List Nd) (a : Option Addr) (c : Nat) (Mo : E.Seg) (a2 : Option Addr) (c2 : Nat) (Ms : E.Seg),
 (bits t.ns.l.length met).count false < f → E.Own 33 6 (o.map rowN) a c Mo → E.Own 4 1 ((bits t.ns.l.length met).map rowB) a2 c2 Ms → o.length + (bits t.ns.l.length met).count false ≤ 1000000 → lo.l = k.lo → hi.l = k.hi →
 Con Try.prog 77 [.pointer (some ⟨b, 0, none⟩), .int .i64 at_, lo.val, hi.val] [ndsP t.ns, psP t.ns.l, intsP lo, intsP hi, psP o] [planBox t b a o.length c a2 c2 false, Mo, Ms] (NodeEnd t f met at_ k b o a2 c2)
theorem NodeEnd.no {t : Tr} {f : Nat} {met : List Nat} {at_ : Int} {k : Kb} {b : Nat} {o : List Nd} {a a2 : Option Addr} {c c2 : Nat} {Mo Ms : E.Seg} (h : shape t.p.ns f met at_ k = none) (hO : E.Own 33 6 (o.map rowN) a c Mo) :
  NodeEnd t f met at_ k b o a2 c2 (.int .i64 0) [psP o] [planBox t b a o.length c a2 c2 true, Mo, Ms] :=
 ⟨[], a, c, Mo, Ms, true, 0, rfl, by simp, by simp, by simpa using hO, by simp, fun s hs => (by rw [h] at hs; cases hs), fun _ => rfl⟩
theorem dec_le (a b : Int) : decide (a ≤ b) = !decide (b < a) := by
 by_cases h : a ≤ b
 ·rw [decide_eq_true h, decide_eq_false (by omega)]; rfl
 ·rw [decide_eq_false h, decide_eq_true (by omega)]; rfl
theorem dec_lt (a b : Int) : decide (a < b) = !decide (b ≤ a) := by
 by_cases h : a < b
 ·rw [decide_eq_true h, decide_eq_false (by omega)]; rfl
 ·rw [decide_eq_false h, decide_eq_true (by omega)]; rfl
theorem lo_bad {k : Kb} {x : Int} : (k.has x) = (!((k.isLeast && decide (x < k.least)) || (k.isMost && decide (k.most ≤ x)))) := by
 unfold Kb.has
 rw [dec_le k.least x, dec_lt x k.most]
 cases k.isLeast <;> cases k.isMost <;> simp
/-- Is a leaf spoilt, as far as one has looked? -/
def badAt (n : Nod) (k : Kb) (j : Nat) : Bool := !(leafFields n && (n.l.take j).all (fun p => k.has p.k))
theorem badAt_zero (n : Nod) (k : Kb) : badAt n k 0 = !leafFields n := by simp [badAt]
theorem badAt_step {n : Nod} {k : Kb} {j : Nat} {y : Pr} (hy : n.l[j]? = some y) : badAt n k (j + 1) = (badAt n k j || !(k.has y.k)) := by
 unfold badAt
 rw [List.take_succ_eq_append_getElem (lt_of_get hy), List.all_append, (List.getElem?_eq_some_iff.1 hy).2]
 simp [Bool.not_and, Bool.or_assoc]
theorem badAt_end {n : Nod} {k : Kb} {j : Nat} (h : n.l.length ≤ j) : badAt n k j = !leafOk n k := by
 rw [leafOk_eq, badAt, List.take_of_length_le h]
theorem lo_len {k : Kb} {l : List Int} (h : l = k.lo) : k.isLeast = decide (0 < (l.length : Int)) := by
 subst h; unfold Kb.lo; cases k.isLeast <;> rfl
theorem hi_len {k : Kb} {l : List Int} (h : l = k.hi) : k.isMost = decide (0 < (l.length : Int)) := by
 subst h; unfold Kb.hi; cases k.isMost <;> rfl
theorem lo_get {k : Kb} {l : List Int} (h : l = k.lo) (hl : 0 < (l.length : Int)) : l[0]? = some k.least := by
 have := lo_len h
 rw [decide_eq_true hl] at this
 subst h
 unfold Kb.lo
 rw [this]
 rfl
theorem hi_get {k : Kb} {l : List Int} (h : l = k.hi) (hl : 0 < (l.length : Int)) : l[0]? = some k.most := by
 have := hi_len h
 rw [decide_eq_true hl] at this
 subst h
 unfold Kb.hi
 rw [this]
 rfl
theorem NodeEnd.leaf {t : Tr} {f i : Nat} {met : List Nat} {k : Kb} {b : Nat} {o : List Nd} {n : Nd} {x : Nod} {a4 a2 : Option Addr} {c4 c2 : Nat} {M4 M2 : E.Seg} {bad : Bool} (hsh : shape t.p.ns f met (i : Int) k = if leafOk x k then some (.leaf i) else none) (hbad : bad = !leafOk x k)
  (hO : E.Own 33 6 ((o ++ [n]).map rowN) a4 c4 M4) (hn : n.p = x) (hg : t.p.ns.getD i default = x) (hS : E.Own 4 1 ((bits t.ns.l.length (i :: met)).map rowB) a2 c2 M2) (hcs : (bits t.ns.l.length (i :: met)).count false + 1 = (bits t.ns.l.length met).count false) :
  NodeEnd t f met (i : Int) k b o a2 c2 (.int .i64 (o.length : Int)) [psP (o ++ [n])] [planBox t b a4 (o.length + 1) c4 a2 c2 bad, M4, M2] := by
 refine ⟨[n], a4, c4, M4, M2, bad, o.length, rfl, rfl, by simp, hO, by rw [List.length_append]; simp only [List.length_singleton]; omega, fun s hs => ?_, fun hs => ?_⟩
 ·rw [hsh] at hs
  cases hl : leafOk x k
  ·rw [hl] at hs; cases hs
  ·rw [hl] at hs
   cases hs
   exact ⟨by rw [hbad, hl]; rfl, rfl, by show [n.p] = [_]; rw [hn, hg], hS, by rw [List.length_append]; simp only [List.length_singleton]; show _ + (bits _ (i :: met)).count false ≤ _; omega⟩
 ·rw [hsh] at hs
  cases hl : leafOk x k
  ·rw [hbad, hl]; rfl
  ·rw [hl] at hs; cases hs
theorem rb1 {n : Nod} {k : Kb} (h : n.l.length ≠ 0) : routeOk n k = false := by
 unfold routeOk
 cases hl : n.l with
 | nil => simp [hl] at h
 | cons a l => simp
theorem rb2 {n : Nod} {k : Kb} (h : n.stat ≠ 0) : routeOk n k = false := by simp [routeOk, h]
theorem rb3 {n : Nod} {k : Kb} (hL : k.isLeast = true) (h : n.key ≤ k.least) : routeOk n k = false := by
 unfold routeOk Kb.has
 rcases Int.lt_or_eq_of_le h with h' | h'
 ·rw [hL, decide_eq_false (p := k.least ≤ n.key) (by omega)]; simp
 ·rw [hL, decide_eq_true (p := n.key = k.least) h']; simp
theorem rb4 {n : Nod} {k : Kb} (hL : k.isMost = true) (h : k.most ≤ n.key) : routeOk n k = false := by
 unfold routeOk Kb.has
 rw [hL, decide_eq_false (p := n.key < k.most) (by omega)]; simp
theorem rgood {n : Nod} {k : Kb} (h1 : n.l.length = 0) (h2 : n.stat = 0) (h3 : k.isLeast = true → k.least < n.key) (h4 : k.isMost = true → n.key < k.most) : routeOk n k = true := by
 unfold routeOk Kb.has
 rw [List.eq_nil_of_length_eq_zero h1, decide_eq_true h2]
 cases hL : k.isLeast <;> cases hM : k.isMost <;> simp <;> (try have := h3 hL) <;> (try have := h4 hM) <;> omega
theorem route_pure {n : Nod} {k : Kb} (h : routeOk n k = true) : n.l = [] ∧ n.stat = 0 := by
 simp only [routeOk, Bool.and_eq_true, decide_eq_true_eq, List.isEmpty_iff] at h
 exact ⟨h.1, h.2.1⟩
/-- A route, its left side spoilt. -/
theorem NodeEnd.left {t : Tr} {f : Nat} {met : List Nat} {at_ : Int} {k : Kb} {b : Nat} {o q : List Nd} {a a2 : Option Addr} {c c2 : Nat} {Mo Ms : E.Seg} (h : shape t.p.ns f met at_ k = none) (hO : E.Own 33 6 ((o ++ q).map rowN) a c Mo) {N : Nat} (hN : N = (o ++ q).length) {v' : Int}
  (hb : (o ++ q).length ≤ o.length + (bits t.ns.l.length met).count false) : NodeEnd t f met at_ k b o a2 c2 (.int .i64 v') [psP (o ++ q)] [planBox t b a N c a2 c2 true, Mo, Ms] := by
 subst hN
 exact ⟨q, a, c, Mo, Ms, true, v', rfl, rfl, rfl, hO, hb, fun s hs => (by rw [h] at hs; cases hs), fun _ => rfl⟩
theorem psP_mid {H : Hp} {o q : List Nd} {n m : Nd} (h : (psP (o ++ n :: q)).holds H) (hm : (prsP m.ps).holds H) : (psP (o ++ m :: q)).holds H := fun y hy => by
 rcases List.mem_append.1 hy with h' | h'
 ·exact h y (List.mem_append_left _ h')
 rcases List.mem_cons.1 h' with h' | h'
 ·rw [h']; exact hm
 ·exact h y (List.mem_append_right _ (List.mem_cons_of_mem _ h'))
/-- A route, its left side all right. -/
theorem NodeEnd.node {t : Tr} {f i : Nat} {met : List Nat} {k k2 : Kb} {b : Nat} {o q1 q2 : List Nd} {n : Nd} {x : Nod} {l : Sh} {at2 : Int} {a a2 : Option Addr} {c c2 : Nat} {M1 M2 : E.Seg} {bad : Bool} {N : Nat} {v2 : Int} {n0 : Nd}
  (hsh : shape t.p.ns (f + 1) met (i : Int) k = (shape t.p.ns f (l.places ++ i :: met) at2 k2).map (.node i l)) (hg : t.p.ns.getD i default = x) (hr : x.route = true) (hp : x.l = [] ∧ x.stat = 0)
  (hq1 : q1.map Nd.p = l.lay t.p.ns (o ++ [n0]).length) (hO : E.Own 33 6 ((o ++ n :: (q1 ++ q2)).map rowN) a c M1) (hN : N = (((o ++ [n0]) ++ q1) ++ q2).length)
  (hcs : (bits t.ns.l.length (i :: met)).count false + 1 = (bits t.ns.l.length met).count false)
  (hl1 : ((o ++ [n0]) ++ q1).length + (bits t.ns.l.length (l.places ++ i :: met)).count false ≤ (o ++ [n0]).length + (bits t.ns.l.length (i :: met)).count false)
  (hb : (((o ++ [n0]) ++ q1) ++ q2).length ≤ ((o ++ [n0]) ++ q1).length + (bits t.ns.l.length (l.places ++ i :: met)).count false)
  (hn : n = ⟨true, x.key, ((o ++ [n0]).length : Nat), v2, ⟨none, 0, []⟩, 0⟩)
  (hs : ∀ s, shape t.p.ns f (l.places ++ i :: met) at2 k2 = some s → bad = false ∧ v2 = (((o ++ [n0]) ++ q1).length : Int) ∧ q2.map Nd.p = s.lay t.p.ns ((o ++ [n0]) ++ q1).length ∧ E.Own 4 1 ((bits t.ns.l.length (s.places ++ (l.places ++ i :: met))).map rowB) a2 c2 M2 ∧
   (((o ++ [n0]) ++ q1) ++ q2).length + (bits t.ns.l.length (s.places ++ (l.places ++ i :: met))).count false ≤ ((o ++ [n0]) ++ q1).length + (bits t.ns.l.length (l.places ++ i :: met)).count false)
  (hno : shape t.p.ns f (l.places ++ i :: met) at2 k2 = none → bad = true) :
  NodeEnd t (f + 1) met (i : Int) k b o a2 c2 (.int .i64 (o.length : Int)) [psP (o ++ n :: (q1 ++ q2))] [planBox t b a N c a2 c2 bad, M1, M2] := by
 have hlen : (o ++ n :: (q1 ++ q2)).length = (((o ++ [n0]) ++ q1) ++ q2).length := by simp
 refine ⟨n :: (q1 ++ q2), a, c, M1, M2, bad, o.length, rfl, rfl, by rw [hN, hlen], hO, ?_, fun s hs' => ?_, fun hs' => ?_⟩
 ·rw [hlen]; simp only [List.length_append, List.length_singleton] at *; omega
 ·rw [hsh] at hs'
  cases hr' : shape t.p.ns f (l.places ++ i :: met) at2 k2 with
  | none => rw [hr'] at hs'; cases hs'
  | some r =>
   rw [hr'] at hs'
   cases hs'
   obtain ⟨e1, e2, e3, e4, e5⟩ := hs r hr'
   have eb : bits t.ns.l.length ((Sh.node i l r).places ++ met) = bits t.ns.l.length (r.places ++ (l.places ++ i :: met)) := bits_mem fun j => by
    simp only [Sh.places, List.contains_eq_mem, List.mem_append, List.mem_cons, List.cons_append, List.append_assoc]
    congr 1
    simp only [eq_iff_iff]
    constructor <;> (intro h; rcases h with h | h | h | h <;> simp [h])
   refine ⟨e1, rfl, ?_, by rw [eb]; exact e4, ?_⟩
   ·have hq1l : q1.length = l.size := by have := congrArg List.length hq1; rwa [List.length_map, Sh.lay_length] at this
    simp only [Sh.lay, hg, List.map_cons, List.map_append, hq1, e3, List.length_append, List.length_singleton, hq1l]
    congr 1
    rw [hn, e2]
    obtain ⟨x1, x2, x3, x4, x5, x6⟩ := x
    simp only [Nd.p, List.length_append, List.length_singleton, hq1l] at *
    simp [hr, hp.1, hp.2]
   ·rw [eb, hlen]; simp only [List.length_append, List.length_singleton] at *; omega
 ·rw [hsh] at hs'
  cases hr' : shape t.p.ns f (l.places ++ i :: met) at2 k2 with
  | none => exact hno hr'
  | some r => rw [hr'] at hs'; cases hs'
end Go.Proofs.Ytmkodknmknfdkaa
set_option linter.unusedVariables false
set_option linter.unusedSimpArgs false
namespace Go.Proofs.Ytmkodknmknfdkaa
open E
set_option maxRecDepth 4000
theorem t109 : tRow Try.prog 109 = some (false, 5, 88, .agg #[.int .i64 0, .slice none 0 0, .slice none 0 0, .slice none 0 0, .bool false]) := by kernel_rfl
theorem s109 : sRow Try.prog 109 = some [(0, 2, false), (2, 1, true), (3, 1, true), (4, 1, true)] := by kernel_rfl
theorem en77 : Enters Try.prog 77 := Enters.mk' Try.func77 rfl rfl
theorem node77b (t : Tr) (b : Nat) (at_ : Int) (lv hv ov sv : Value) : Con Try.prog 77 [.pointer (some ⟨b, 0, none⟩), .int .i64 at_, lv, hv] [] [[(b, .cells #[.int .i64 t.root, t.ns.val, ov, sv, .bool true] 109 (0, 0))]] (fun v Γ M => v = .int .i64 0 ∧ Γ = [] ∧ M = [[(b, .cells #[.int .i64 t.root, t.ns.val, ov, sv, .bool true] 109 (0, 0))]]) := by
 refine Con.body 238 Try.func77 rfl Try.ntmps77 rfl fun X H₀ L₀ => ?_
 refine aE (aR ?_)
 refine aS 1 rfl rfl ?_
 refine aN (aT (aE (aE (aR ?_))))
 refine aS 2 rfl rfl ?_
 refine aF s109 t4 rfl rfl rfl (Rd.loc (i := 0) rfl rfl) rfl rfl ?_
 refine aS 23 rfl rfl ?_
 refine aN (aT ?_)
 refine At.condT rfl ?_
 refine aE (aR ?_)
 refine aS 2 rfl rfl ?_
 refine aQ (q_fieldAddr s109 rfl rfl rfl) rfl ?_
 refine At.loudN (l_store t4 rfl rfl (i := 0) rfl rfl rfl rfl) ?_
 rintro _ _ _ ⟨rfl, rfl⟩
 refine aN (aT (aE (aR ?_)))
 refine aS 1 rfl rfl ?_
 refine aN (aT (At.ret (At.thenRet ?_)))
 exact At.results (Γr := []) (M := [[(b, .cells #[.int .i64 t.root, t.ns.val, ov, sv, .bool true] 109 (0, 0))]]) rfl (RVals.cons (RVal.tmp rfl) RVals.nil) (.head _) (fun _ _ => trivial) (k_ r_) ⟨rfl, rfl, rfl⟩
set_option maxHeartbeats 1000000 in
theorem node77_step (t : Tr) (hsm : smallP t.ns.l) (f : Nat) (ih : Node77 t f) : Node77 t (f + 1) := by
 intro met at_ k lw hw b o a c Mo a2 c2 Ms hb hO hS hB hlo hhi
 refine Con.body 238 Try.func77 rfl Try.ntmps77 rfl fun X H₀ L₀ => ?_
 refine At.lenOf (hs := (ix 1 rfl)) fun hlen => ?_
 rw [List.length_map] at hlen
 have hl1 := lo_len hlo
 have hl2 := hi_len hhi
 refine aE (aR ?_)
 refine aS 1 rfl rfl ?_
 refine aN (aT (aE (aE (aR ?_))))
 refine aS 2 rfl rfl ?_
 refine aF s109 t4 rfl rfl rfl (Rd.loc (i := 0) rfl rfl) rfl rfl ?_
 refine aS 5 rfl rfl ?_
 refine At.splitP (d := 23) rfl (fun hneg => ?_) (fun hneg => ?_)
 ·
  refine aS 18 rfl rfl ?_
  refine aN (aT ?_)
  refine At.condT rfl ?_
  refine aE (aR ?_)
  refine aS 2 rfl rfl ?_
  refine aQ (q_fieldAddr s109 rfl rfl rfl) rfl ?_
  refine At.loudN (l_store t4 rfl rfl (i := 0) rfl rfl rfl rfl) ?_
  rintro _ _ _ ⟨rfl, rfl⟩
  refine aN (aT (aE (aR ?_)))
  refine aS 1 rfl rfl ?_
  refine aN (aT (At.ret (At.thenRet ?_)))
  exact At.results (Γr := [psP o]) (M := [(planBox t b a o.length c a2 c2 true), Mo, Ms]) rfl (RVals.cons (RVal.tmp rfl) RVals.nil) (.head _) (fun _ h => ⟨h.2.2.2.2.2.1, trivial⟩) (k_ (k_ (k_ r_))) (NodeEnd.no (sh_neg hneg) hO)
 ·
  obtain ⟨i, rfl⟩ := Int.eq_ofNat_of_zero_le (show 0 ≤ at_ by omega)
  refine aS 3 rfl rfl ?_
  refine At.open rfl rfl ?_
  refine aQ (q_fieldAddr s109 rfl rfl rfl) rfl ?_
  refine At.open rfl rfl ?_
  refine aQ (q_fieldAddr s24 rfl rfl rfl) rfl ?_
  refine At.open rfl rfl ?_
  refine aQ (q_load t22 rfl (Rd.loc (i := 0) rfl rfl)) rfl ?_
  refine At.open rfl rfl ?_
  refine aQ (q_len Try.underlying22 rfl) rfl ?_
  refine aS 3 rfl rfl ?_
  refine At.splitP (d := 33) rfl (fun hout => ?_) (fun hout => ?_)
  ·
   refine aS 8 rfl rfl ?_
   refine aN (aT ?_)
   refine At.condT rfl ?_
   refine aE (aR ?_)
   refine aS 2 rfl rfl ?_
   refine aQ (q_fieldAddr s109 rfl rfl rfl) rfl ?_
   refine At.loudN (l_store t4 rfl rfl (i := 0) rfl rfl rfl rfl) ?_
   rintro _ _ _ ⟨rfl, rfl⟩
   refine aN (aT (aE (aR ?_)))
   refine aS 1 rfl rfl ?_
   refine aN (aT (At.ret (At.thenRet ?_)))
   exact At.results (Γr := [psP o]) (M := [(planBox t b a o.length c a2 c2 true), Mo, Ms]) rfl (RVals.cons (RVal.tmp rfl) RVals.nil) (.head _) (fun _ h => ⟨h.2.2.2.2.2.1, trivial⟩) (k_ (k_ (k_ r_))) (NodeEnd.no (sh_out (by simp [Tr.p]; omega)) hO)
  ·
   have hi : i < t.ns.l.length := by omega
   obtain ⟨x, hx⟩ := get_of_lt hi
   have hxp : t.p.ns[i]? = some x.p := map_get hx
   have hxg : t.p.ns.getD i default = x.p := by rw [List.getD_eq_getElem?_getD, hxp]; rfl
   refine aS 2 rfl rfl ?_
   refine At.open rfl rfl ?_
   refine aQ (q_fieldAddr s109 rfl rfl rfl) rfl ?_
   refine At.open rfl rfl ?_
   refine aQ (q_load t38 rfl (Rd.loc (i := 0) rfl rfl)) rfl ?_
   refine aS 1 rfl rfl ?_
   refine At.open rfl rfl ?_
   refine aQ (q_indexOwn Try.underlying38 t4 rfl hS (by simp [bits_length]) rfl rfl hi) rfl ?_
   refine At.open rfl rfl ?_
   refine aQ (q_load t4 rfl (Rd.own0 hS (i := 2) rfl (map_get (bits_get hi)) rfl)) rfl ?_
   refine aS 1 rfl rfl ?_
   refine aN (aT ?_)
   refine At.cond rfl (fun hmet => ?_) (fun hmet => ?_)
   ·
    refine aE (aR ?_)
    refine aS 2 rfl rfl ?_
    refine aQ (q_fieldAddr s109 rfl rfl rfl) rfl ?_
    refine At.loudN (l_store t4 rfl rfl (i := 0) rfl rfl rfl rfl) ?_
    rintro _ _ _ ⟨rfl, rfl⟩
    refine aN (aT (aE (aR ?_)))
    refine aS 1 rfl rfl ?_
    refine aN (aT (At.ret (At.thenRet ?_)))
    exact At.results (Γr := [psP o]) (M := [(planBox t b a o.length c a2 c2 true), Mo, Ms]) rfl (RVals.cons (RVal.tmp rfl) RVals.nil) (.head _) (fun _ h => ⟨h.2.2.2.2.2.1, trivial⟩) (k_ (k_ (k_ r_))) (NodeEnd.no (sh_met hmet) hO)
   ·
    have hcs := count_step hi hmet
    refine At.skip (aT (aE (aR ?_)))
    refine aS 2 rfl rfl ?_
    refine aF s109 t38 rfl rfl rfl (Rd.loc (i := 0) rfl rfl) rfl rfl ?_
    refine aS 1 rfl rfl ?_
    refine aQ (q_indexOwn Try.underlying38 t4 rfl hS (by simp [bits_length]) rfl rfl hi) rfl ?_
    refine At.loudN (l_storeOwn0 t4 rfl rfl hS (i := 2) rfl (map_get (bits_get hi)) rfl rfl rfl) ?_
    rintro _ _ _ ⟨Mow1, ow1, rfl, rfl⟩
    refine aN (aT (aE (aR ?_)))
    have hS2 : Own 4 1 ((bits t.ns.l.length (i :: met)).map rowB) a2 c2 Mow1 := by rw [← bits_row _ _ _ (met.contains i)]; exact ow1
    refine At.know (prsP x.ps) (fun _ h => psP_get h.2.2.1 hx) ?_
    refine aS 2 rfl rfl ?_
    refine aQ (q_fieldAddr s109 rfl rfl rfl) rfl ?_
    refine aF s24 t22 rfl rfl rfl (Rd.loc (i := 0) rfl rfl) rfl rfl ?_
    refine aS 1 rfl rfl ?_
    refine aQ (q_index Try.underlying22 t33 rfl (ix 2 rfl) (by simp) rfl rfl (lt_of_get hx)) rfl ?_
    refine aQ (q_loadS t33 rfl (RdS.sl0 (ix 2 rfl) (map_get hx)) rfl) rfl ?_
    refine At.loud (l_alloc t33) rfl ?_
    rintro _ _ _ ⟨b1, rfl, rfl, rfl⟩
    refine At.loudN (l_store t33 rfl rfl (i := 0) rfl rfl rfl rfl) ?_
    rintro _ _ _ ⟨rfl, rfl⟩
    refine aN (aT (aE (aR ?_)))
    refine aS 2 rfl rfl ?_
    refine aF s109 t22 rfl rfl rfl (Rd.loc (i := 1) rfl rfl) rfl rfl ?_
    refine aQ (q_len Try.underlying22 rfl) rfl ?_
    refine aS 1 rfl rfl ?_
    refine aN (aT (aE (aE (aR ?_))))
    refine aF s33 t4 rfl rfl rfl (Rd.loc (i := 0) rfl rfl) rfl rfl ?_
    refine aS 1 rfl rfl ?_
    refine aN (aT ?_)
    refine At.cond rfl (fun hleaf => ?_) (fun hleaf => ?_)
    ·
     refine At.lenOf (hs := (.head _)) fun hlx => ?_
     rw [List.length_map] at hlx
     have hlf : x.p.route = false := not_t hleaf
     have hsh := sh_leaf (f := f) (k := k) hxp hmet hlf
     refine aE (aR ?_)
     refine aS 1 rfl rfl ?_
     refine aF s33 t3 rfl rfl rfl (Rd.loc (i := 0) rfl rfl) rfl rfl ?_
     refine At.cutOpsD (ι := Unit) .z 27 [70, 71, 72, 73, 74, 75, 76, 77, 78, 79, 80, 81, 82, 83, 84, 85, 86, 87, 88, 89, 90, 91, 92, 93, 94, 95, 96] (fun _ => [(96, .bool (badAt x.p k 0))]) (fun _ => []) (fun _ => []) (fun _ => True) rfl ?_ ?_
     ·
      refine aS 2 rfl rfl ?_
      refine At.splitP (d := 71) rfl (fun h2 => ?_) (fun h2 => ?_)
      ·
       refine aS 25 rfl rfl ?_
       refine aN ?_
       refine At.say 96 (.bool (badAt x.p k 0)) rfl (congrArg Value.bool (by rw [badAt_zero, Bool.eq_iff_iff]; cases hr : rises x.ps.l <;> simp_all [leafFields, Nd.p] <;> omega)) ?_
       refine aT ?_
       exact At.meetK () trivial (Tells.meet 29 ⟨rfl, trivial⟩ rfl rfl) (fun _ h => h) r_
      ·
       refine At.open rfl rfl ?_
       refine aQ (q_fieldAddr s33 rfl rfl rfl) rfl ?_
       refine At.open rfl rfl ?_
       refine aQ (q_load t3 rfl (Rd.loc (i := 0) rfl rfl)) rfl ?_
       refine aS 3 rfl rfl ?_
       refine At.splitP (d := 76) rfl (fun h3 => ?_) (fun h3 => ?_)
       ·
        refine aS 20 rfl rfl ?_
        refine aN ?_
        refine At.say 96 (.bool (badAt x.p k 0)) rfl (congrArg Value.bool (by rw [badAt_zero, Bool.eq_iff_iff]; cases hr : rises x.ps.l <;> simp_all [leafFields, Nd.p] <;> omega)) ?_
        refine aT ?_
        exact At.meetK () trivial (Tells.meet 30 ⟨rfl, trivial⟩ rfl rfl) (fun _ h => h) r_
       ·
        refine At.open rfl rfl ?_
        refine aQ (q_fieldAddr s33 rfl rfl rfl) rfl ?_
        refine At.open rfl rfl ?_
        refine aQ (q_load t3 rfl (Rd.loc (i := 0) rfl rfl)) rfl ?_
        refine aS 3 rfl rfl ?_
        refine At.splitP (d := 81) rfl (fun h4 => ?_) (fun h4 => ?_)
        ·
         refine aS 15 rfl rfl ?_
         refine aN ?_
         refine At.say 96 (.bool (badAt x.p k 0)) rfl (congrArg Value.bool (by rw [badAt_zero, Bool.eq_iff_iff]; cases hr : rises x.ps.l <;> simp_all [leafFields, Nd.p] <;> omega)) ?_
         refine aT ?_
         exact At.meetK () trivial (Tells.meet 31 ⟨rfl, trivial⟩ rfl rfl) (fun _ h => h) r_
        ·
         refine At.open rfl rfl ?_
         refine aQ (q_fieldAddr s33 rfl rfl rfl) rfl ?_
         refine At.open rfl rfl ?_
         refine aQ (q_load t31 rfl (Rd.loc (i := 0) rfl rfl)) rfl ?_
         refine At.open rfl rfl ?_
         refine At.call en30 rfl (may30 _) (fun _ h => ⟨h.1, trivial⟩) (List.Perm.refl _) rfl ?_
         rintro _ _ _ ⟨rfl, rfl, rfl⟩
         refine aS 3 rfl rfl ?_
         refine At.split (d := 87) rfl (fun h5 => ?_) (fun h5 => ?_)
         ·
          refine aS 9 rfl rfl ?_
          refine aN ?_
          refine At.say 96 (.bool (badAt x.p k 0)) rfl (congrArg Value.bool (by rw [badAt_zero, Bool.eq_iff_iff]; cases hr : rises x.ps.l <;> simp_all [leafFields, Nd.p] <;> omega)) ?_
          refine aT ?_
          exact At.meetK () trivial (Tells.meet 32 ⟨rfl, trivial⟩ rfl rfl) (fun _ h => h) r_
         ·
          refine At.open rfl rfl ?_
          refine aQ (q_fieldAddr s33 rfl rfl rfl) rfl ?_
          refine At.open rfl rfl ?_
          refine aQ (q_load t3 rfl (Rd.loc (i := 0) rfl rfl)) rfl ?_
          refine aS 3 rfl rfl ?_
          refine At.splitP (d := 92) rfl (fun h6 => ?_) (fun h6 => ?_)
          ·
           refine aS 4 rfl rfl ?_
           refine aN ?_
           refine At.say 96 (.bool (badAt x.p k 0)) rfl (congrArg Value.bool (by rw [badAt_zero, Bool.eq_iff_iff]; cases hr : rises x.ps.l <;> simp_all [leafFields, Nd.p] <;> omega)) ?_
           refine aT ?_
           exact At.meetK () trivial (Tells.meet 33 ⟨rfl, trivial⟩ rfl rfl) (fun _ h => h) r_
          ·
           refine At.open rfl rfl ?_
           refine aQ (q_fieldAddr s33 rfl rfl rfl) rfl ?_
           refine At.open rfl rfl ?_
           refine aQ (q_load t3 rfl (Rd.loc (i := 0) rfl rfl)) rfl ?_
           refine aS 2 rfl rfl ?_
           refine aN ?_
           refine At.say 96 (.bool (badAt x.p k 0)) rfl (congrArg Value.bool (by rw [badAt_zero, Bool.eq_iff_iff]; cases hr : rises x.ps.l <;> simp_all [leafFields, Nd.p] <;> omega)) ?_
           refine aT ?_
           exact At.meetK () trivial (Tells.meet 33 ⟨rfl, trivial⟩ rfl rfl) (fun _ h => h) r_
     intro u hI
     obtain _ := u
     refine aS 1 rfl rfl ?_
     refine aQ (q_fieldAddr s109 rfl rfl rfl) rfl ?_
     refine At.loudN (l_store t4 rfl rfl (i := 1) rfl rfl rfl rfl) ?_
     rintro _ _ _ ⟨rfl, rfl⟩
     refine aN (aT (aE (aE (aR ?_))))
     refine aF s33 t31 rfl rfl rfl (Rd.loc (i := 0) rfl rfl) rfl rfl ?_
     refine aQ (q_len Try.underlying31 rfl) rfl ?_
     refine aS 1 rfl rfl ?_
     refine aN (aT (At.block ?_))
     refine At.front 1 rfl ?_
     refine At.loopK (ι := Nat) [12, 102, 103, 104, 105, 106, 107, 108, 109, 110, 111, 112, 113, 114, 115, 116, 117, 118, 119, 120, 121, 122, 123, 124, 125, 126, 127, 128, 129, 130, 131, 132, 133, 134, 135, 136, 137, 138, 139] (fun j => [(102, .int .i64 (j : Int))]) (fun j => []) (fun j => [(planBox t b a o.length c a2 c2 (badAt x.p k j))]) _ (fun j => j ≤ x.ps.l.length) (fun j => x.ps.l.length - j) 0 (Nat.zero_le _) ⟨rfl, trivial⟩ (fun _ _ => trivial) (k_ r_) ?_
     intro j hj0
     refine aE (aR ?_)
     refine aS 1 rfl rfl ?_
     refine aN (aT (aE ?_))
     refine At.if rfl (fun hj => ?_) (fun hj => ?_)
     ·
      obtain ⟨y, hy⟩ := get_of_lt (l := x.ps.l) (i := j) (by omega)
      have hj1 := lt_of_get hy
      have hbs := badAt_step (n := x.p) (k := k) hy
      refine At.skip (aT (aE (At.block (aE (aR ?_)))))
      refine aQ (q_index Try.underlying31 t50 rfl (.head _) (by simp) rfl rfl (lt_of_get hy)) rfl ?_
      refine aQ (q_loadS t50 rfl (RdS.sl0 (.head _) (map_get hy)) rfl) rfl ?_
      refine At.loud (l_alloc t50) rfl ?_
      rintro _ _ _ ⟨b2, rfl, rfl, rfl⟩
      refine At.loudN (l_store t50 rfl rfl (i := 0) rfl rfl rfl rfl) ?_
      rintro _ _ _ ⟨rfl, rfl⟩
      refine aN (aT ?_)
      refine At.draw 31 (.q 0 (.q 1 (.q 2 (.q 3 (.q 4 (.q 5 (.q 6 (.q 7 (.q 8 (.q 9 (.q 10 (.q 11 (.q 12 (.q 13 (.q 14 (.q 15 (.q 16 (.q 17 (.q 18 (.q 19 (.q 20 (.q 21 (.q 22 (.q 23 (.q 24 (.q 25 (.q 26 (.q 27 (.q 28 (.q 29 (.q 30 (.e)))))))))))))))))))))))))))))))) _ (List.Sublist.refl _) mixed (by kernel_rfl) rfl ?_
      refine oQ rfl (q_move rfl) rfl (cI (cT (cT (cI (cT (cT cP)))))) ?_
      refine oQ rfl (q_move rfl) rfl (cI (cT (cT (cI (cT (cT cP)))))) ?_
      refine oQ rfl (q_nilCheck rfl) rfl (cI (cT (cT (cI (cT (cT cP)))))) ?_
      refine oQ rfl (q_fieldAddr s109 rfl rfl rfl) rfl (cI (cT (cT (cI (cT (cT cP)))))) ?_
      refine oQ rfl (q_load t4 rfl (Rd.loc (i := 1) rfl rfl)) rfl (cI (cT (cT (cI (cT (cT cP)))))) ?_
      refine oQ rfl (q_move rfl) rfl (cI (cT (cT (cI (cT (cT cP)))))) ?_
      refine AtO.split (d := 111) rfl (fun h7 => ?_) (fun h7 => ?_)
      ·
       refine AtO.shut rfl rfl rfl rfl (cI (cT (cT (cI (cT (cT cP)))))) ?_
       refine AtO.shut rfl rfl rfl rfl (cI (cT (cT (cI (cT (cT cP)))))) ?_
       refine AtO.shut rfl rfl rfl rfl (cI (cT (cT (cI (cT (cT cP)))))) ?_
       refine AtO.shut rfl rfl rfl rfl (cI (cT (cT (cI (cT (cT cP)))))) ?_
       refine AtO.shutU rfl rfl rfl (cI (cT (cT (cI (cT (cT cP)))))) ?_
       refine AtO.shutU rfl rfl rfl (cI (cT (cT (cI (cT (cT cP)))))) ?_
       refine AtO.shutU rfl rfl rfl (cI (cT (cT (cI (cT (cT cP)))))) ?_
       refine AtO.shutU rfl rfl rfl (cI (cT (cT (cI (cT (cT cP)))))) ?_
       refine AtO.shutU rfl rfl rfl (cI (cT (cT (cI (cT (cT cP)))))) ?_
       refine AtO.shutU rfl rfl rfl (cI (cT (cT (cI (cT (cT cP)))))) ?_
       refine AtO.shut rfl rfl rfl rfl (cI (cT (cT (cI (cT (cT cP)))))) ?_
       refine oQ rfl (q_pickT rfl rfl) rfl (cI (cT (cT (cI (cT (cT cP)))))) ?_
       refine oQ rfl (q_move rfl) rfl (cI (cT (cT (cI (cT (cT cP)))))) ?_
       refine AtO.shut rfl rfl rfl rfl (cI (cT (cT (cI (cT (cT cP)))))) ?_
       refine AtO.shut rfl rfl rfl rfl (cI (cT (cT (cI (cT (cT cP)))))) ?_
       refine AtO.shut rfl rfl rfl rfl (cI (cT (cT (cI (cT (cT cP)))))) ?_
       refine AtO.shut rfl rfl rfl rfl (cI (cT (cT (cI (cT (cT cP)))))) ?_
       refine AtO.shutU rfl rfl rfl (cI (cT (cT (cI (cT (cT cP)))))) ?_
       refine AtO.shutU rfl rfl rfl (cI (cT (cT (cI (cT (cT cP)))))) ?_
       refine AtO.shutU rfl rfl rfl (cI (cT (cT (cI (cT (cT cP)))))) ?_
       refine AtO.shutU rfl rfl rfl (cI (cT (cT (cI (cT (cT cP)))))) ?_
       refine AtO.shutU rfl rfl rfl (cI (cT (cT (cI (cT (cT cP)))))) ?_
       refine AtO.shutU rfl rfl rfl (cI (cT (cT (cI (cT (cT cP)))))) ?_
       refine AtO.shut rfl rfl rfl rfl (cI (cT (cT (cI (cT (cT cP)))))) ?_
       refine oQ rfl (q_pickT rfl rfl) rfl (cI (cT (cT (cI (cT (cT cP)))))) ?_
       refine AtO.done ?_
       refine aS 1 rfl rfl ?_
       refine aQ (q_fieldAddr s109 rfl rfl rfl) rfl ?_
       refine At.say 136 (.bool (badAt x.p k (j + 1))) rfl (congrArg Value.bool (by rw [hbs, lo_bad, hl1, hl2]; simp [hneg, hout, hmet, hleaf, hj, h7] <;> (try simp_all) <;> omega)) ?_
       refine At.loudN (l_store t4 rfl rfl (i := 1) rfl rfl rfl rfl) ?_
       rintro _ _ _ ⟨rfl, rfl⟩
       refine aN (At.inNormal (aT (aR ?_)))
       refine aQ (q_add rfl rfl (by omega) (by omega)) rfl ?_
       refine aS 1 rfl rfl ?_
       refine aN ?_
       refine At.front 1 rfl ?_
       refine aT ?_
       exact At.againK (j + 1) hj1 (by (try dsimp only); omega) (Tells.end 42 ⟨rfl, trivial⟩ rfl rfl) (fun _ h => h) (k_ (d_ r_))
      ·
       refine oG rfl rfl rfl (q_move rfl) rfl (cI (cT (cT (cI (cT (cT cP)))))) ?_
       refine oG rfl rfl rfl (q_len Try.underlying37 rfl) rfl (cI (cT (cT (cI (cT (cT cP)))))) ?_
       refine oG rfl rfl rfl (q_gtr rfl rfl) rfl (cI (cT (cT (cI (cT (cT cP)))))) ?_
       refine oG rfl rfl rfl (q_move rfl) rfl (cI (cT (cT (cI (cT (cT cP)))))) ?_
       refine AtO.splitP (d := 115) rfl (fun h8 => ?_) (fun h8 => ?_)
       ·
        refine oG rfl rfl rfl (q_fieldAddr s50 rfl rfl rfl) rfl (cI (cT (cT (cI (cT (cT cP)))))) ?_
        refine oG rfl rfl rfl (q_load t3 rfl (Rd.loc (i := 0) rfl rfl)) rfl (cI (cT (cT (cI (cT (cT cP)))))) ?_
        refine oG rfl rfl rfl (q_move rfl) rfl (cI (cT (cT (cI (cT (cT cP)))))) ?_
        refine oG rfl rfl rfl (q_index Try.underlying37 t3 rfl (ix 4 rfl) (by simp) rfl rfl (lt_of_get (lo_get hlo (by assumption)))) rfl (cI (cT (cT (cI (cT (cT cP)))))) ?_
        refine oG rfl rfl rfl (q_load t3 rfl (Rd.sl0 (ix 4 rfl) (map_get (lo_get hlo (by assumption))) rfl)) rfl (cI (cT (cT (cI (cT (cT cP)))))) ?_
        refine oG rfl rfl rfl (q_lss rfl rfl) rfl (cI (cT (cT (cI (cT (cT cP)))))) ?_
        refine oG rfl rfl rfl (q_pickT rfl rfl) rfl (cI (cT (cT (cI (cT (cT cP)))))) ?_
        refine oQ rfl (q_pickF rfl rfl) rfl (cI (cT (cT (cI (cT (cT cP)))))) ?_
        refine oQ rfl (q_move rfl) rfl (cI (cT (cT (cI (cT (cT cP)))))) ?_
        refine AtO.splitP (d := 124) rfl (fun h9 => ?_) (fun h9 => ?_)
        ·
         refine AtO.shut rfl rfl rfl rfl (cI (cT (cT (cI (cT (cT cP)))))) ?_
         refine AtO.shut rfl rfl rfl rfl (cI (cT (cT (cI (cT (cT cP)))))) ?_
         refine AtO.shut rfl rfl rfl rfl (cI (cT (cT (cI (cT (cT cP)))))) ?_
         refine AtO.shut rfl rfl rfl rfl (cI (cT (cT (cI (cT (cT cP)))))) ?_
         refine AtO.shutU rfl rfl rfl (cI (cT (cT (cI (cT (cT cP)))))) ?_
         refine AtO.shutU rfl rfl rfl (cI (cT (cT (cI (cT (cT cP)))))) ?_
         refine AtO.shutU rfl rfl rfl (cI (cT (cT (cI (cT (cT cP)))))) ?_
         refine AtO.shutU rfl rfl rfl (cI (cT (cT (cI (cT (cT cP)))))) ?_
         refine AtO.shutU rfl rfl rfl (cI (cT (cT (cI (cT (cT cP)))))) ?_
         refine AtO.shutU rfl rfl rfl (cI (cT (cT (cI (cT (cT cP)))))) ?_
         refine AtO.shut rfl rfl rfl rfl (cI (cT (cT (cI (cT (cT cP)))))) ?_
         refine oQ rfl (q_pickT rfl rfl) rfl (cI (cT (cT (cI (cT (cT cP)))))) ?_
         refine AtO.done ?_
         refine aS 1 rfl rfl ?_
         refine aQ (q_fieldAddr s109 rfl rfl rfl) rfl ?_
         refine At.say 136 (.bool (badAt x.p k (j + 1))) rfl (congrArg Value.bool (by rw [hbs, lo_bad, hl1, hl2]; simp [hneg, hout, hmet, hleaf, hj, h7, h8, h9] <;> (try simp_all) <;> omega)) ?_
         refine At.loudN (l_store t4 rfl rfl (i := 1) rfl rfl rfl rfl) ?_
         rintro _ _ _ ⟨rfl, rfl⟩
         refine aN (At.inNormal (aT (aR ?_)))
         refine aQ (q_add rfl rfl (by omega) (by omega)) rfl ?_
         refine aS 1 rfl rfl ?_
         refine aN ?_
         refine At.front 1 rfl ?_
         refine aT ?_
         exact At.againK (j + 1) hj1 (by (try dsimp only); omega) (Tells.end 44 ⟨rfl, trivial⟩ rfl rfl) (fun _ h => h) (k_ (d_ r_))
        ·
         refine oG rfl rfl rfl (q_move rfl) rfl (cI (cT (cT (cI (cT (cT cP)))))) ?_
         refine oG rfl rfl rfl (q_len Try.underlying37 rfl) rfl (cI (cT (cT (cI (cT (cT cP)))))) ?_
         refine oG rfl rfl rfl (q_gtr rfl rfl) rfl (cI (cT (cT (cI (cT (cT cP)))))) ?_
         refine oG rfl rfl rfl (q_move rfl) rfl (cI (cT (cT (cI (cT (cT cP)))))) ?_
         refine AtO.splitP (d := 128) rfl (fun h10 => ?_) (fun h10 => ?_)
         ·
          refine oG rfl rfl rfl (q_fieldAddr s50 rfl rfl rfl) rfl (cI (cT (cT (cI (cT (cT cP)))))) ?_
          refine oG rfl rfl rfl (q_load t3 rfl (Rd.loc (i := 0) rfl rfl)) rfl (cI (cT (cT (cI (cT (cT cP)))))) ?_
          refine oG rfl rfl rfl (q_move rfl) rfl (cI (cT (cT (cI (cT (cT cP)))))) ?_
          refine oG rfl rfl rfl (q_index Try.underlying37 t3 rfl (ix 5 rfl) (by simp) rfl rfl (lt_of_get (hi_get hhi (by assumption)))) rfl (cI (cT (cT (cI (cT (cT cP)))))) ?_
          refine oG rfl rfl rfl (q_load t3 rfl (Rd.sl0 (ix 5 rfl) (map_get (hi_get hhi (by assumption))) rfl)) rfl (cI (cT (cT (cI (cT (cT cP)))))) ?_
          refine oG rfl rfl rfl (q_geq rfl rfl) rfl (cI (cT (cT (cI (cT (cT cP)))))) ?_
          refine oG rfl rfl rfl (q_pickT rfl rfl) rfl (cI (cT (cT (cI (cT (cT cP)))))) ?_
          refine oQ rfl (q_pickF rfl rfl) rfl (cI (cT (cT (cI (cT (cT cP)))))) ?_
          refine AtO.done ?_
          refine aS 1 rfl rfl ?_
          refine aQ (q_fieldAddr s109 rfl rfl rfl) rfl ?_
          refine At.say 136 (.bool (badAt x.p k (j + 1))) rfl (congrArg Value.bool (by rw [hbs, lo_bad, hl1, hl2]; simp [hneg, hout, hmet, hleaf, hj, h7, h8, h9, h10] <;> (try simp_all) <;> omega)) ?_
          refine At.loudN (l_store t4 rfl rfl (i := 1) rfl rfl rfl rfl) ?_
          rintro _ _ _ ⟨rfl, rfl⟩
          refine aN (At.inNormal (aT (aR ?_)))
          refine aQ (q_add rfl rfl (by omega) (by omega)) rfl ?_
          refine aS 1 rfl rfl ?_
          refine aN ?_
          refine At.front 1 rfl ?_
          refine aT ?_
          exact At.againK (j + 1) hj1 (by (try dsimp only); omega) (Tells.end 45 ⟨rfl, trivial⟩ rfl rfl) (fun _ h => h) (k_ (d_ r_))
         ·
          refine AtO.shut rfl rfl rfl rfl (cI (cT (cT (cI (cT (cT cP)))))) ?_
          refine AtO.shut rfl rfl rfl rfl (cI (cT (cT (cI (cT (cT cP)))))) ?_
          refine AtO.shut rfl rfl rfl rfl (cI (cT (cT (cI (cT (cT cP)))))) ?_
          refine AtO.shut rfl rfl rfl rfl (cI (cT (cT (cI (cT (cT cP)))))) ?_
          refine AtO.shut rfl rfl rfl rfl (cI (cT (cT (cI (cT (cT cP)))))) ?_
          refine AtO.shut rfl rfl rfl rfl (cI (cT (cT (cI (cT (cT cP)))))) ?_
          refine oG rfl rfl rfl (q_pickF rfl rfl) rfl (cI (cT (cT (cI (cT (cT cP)))))) ?_
          refine oQ rfl (q_pickF rfl rfl) rfl (cI (cT (cT (cI (cT (cT cP)))))) ?_
          refine AtO.done ?_
          refine aS 1 rfl rfl ?_
          refine aQ (q_fieldAddr s109 rfl rfl rfl) rfl ?_
          refine At.say 136 (.bool (badAt x.p k (j + 1))) rfl (congrArg Value.bool (by rw [hbs, lo_bad, hl1, hl2]; simp [hneg, hout, hmet, hleaf, hj, h7, h8, h9, h10] <;> (try simp_all) <;> omega)) ?_
          refine At.loudN (l_store t4 rfl rfl (i := 1) rfl rfl rfl rfl) ?_
          rintro _ _ _ ⟨rfl, rfl⟩
          refine aN (At.inNormal (aT (aR ?_)))
          refine aQ (q_add rfl rfl (by omega) (by omega)) rfl ?_
          refine aS 1 rfl rfl ?_
          refine aN ?_
          refine At.front 1 rfl ?_
          refine aT ?_
          exact At.againK (j + 1) hj1 (by (try dsimp only); omega) (Tells.end 45 ⟨rfl, trivial⟩ rfl rfl) (fun _ h => h) (k_ (d_ r_))
       ·
        refine AtO.shut rfl rfl rfl rfl (cI (cT (cT (cI (cT (cT cP)))))) ?_
        refine AtO.shut rfl rfl rfl rfl (cI (cT (cT (cI (cT (cT cP)))))) ?_
        refine AtO.shut rfl rfl rfl rfl (cI (cT (cT (cI (cT (cT cP)))))) ?_
        refine AtO.shut rfl rfl rfl rfl (cI (cT (cT (cI (cT (cT cP)))))) ?_
        refine AtO.shut rfl rfl rfl rfl (cI (cT (cT (cI (cT (cT cP)))))) ?_
        refine AtO.shut rfl rfl rfl rfl (cI (cT (cT (cI (cT (cT cP)))))) ?_
        refine oG rfl rfl rfl (q_pickF rfl rfl) rfl (cI (cT (cT (cI (cT (cT cP)))))) ?_
        refine oQ rfl (q_pickF rfl rfl) rfl (cI (cT (cT (cI (cT (cT cP)))))) ?_
        refine oQ rfl (q_move rfl) rfl (cI (cT (cT (cI (cT (cT cP)))))) ?_
        refine oG rfl rfl rfl (q_move rfl) rfl (cI (cT (cT (cI (cT (cT cP)))))) ?_
        refine oG rfl rfl rfl (q_len Try.underlying37 rfl) rfl (cI (cT (cT (cI (cT (cT cP)))))) ?_
        refine oG rfl rfl rfl (q_gtr rfl rfl) rfl (cI (cT (cT (cI (cT (cT cP)))))) ?_
        refine oG rfl rfl rfl (q_move rfl) rfl (cI (cT (cT (cI (cT (cT cP)))))) ?_
        refine AtO.splitP (d := 128) rfl (fun h11 => ?_) (fun h11 => ?_)
        ·
         refine oG rfl rfl rfl (q_fieldAddr s50 rfl rfl rfl) rfl (cI (cT (cT (cI (cT (cT cP)))))) ?_
         refine oG rfl rfl rfl (q_load t3 rfl (Rd.loc (i := 0) rfl rfl)) rfl (cI (cT (cT (cI (cT (cT cP)))))) ?_
         refine oG rfl rfl rfl (q_move rfl) rfl (cI (cT (cT (cI (cT (cT cP)))))) ?_
         refine oG rfl rfl rfl (q_index Try.underlying37 t3 rfl (ix 5 rfl) (by simp) rfl rfl (lt_of_get (hi_get hhi (by assumption)))) rfl (cI (cT (cT (cI (cT (cT cP)))))) ?_
         refine oG rfl rfl rfl (q_load t3 rfl (Rd.sl0 (ix 5 rfl) (map_get (hi_get hhi (by assumption))) rfl)) rfl (cI (cT (cT (cI (cT (cT cP)))))) ?_
         refine oG rfl rfl rfl (q_geq rfl rfl) rfl (cI (cT (cT (cI (cT (cT cP)))))) ?_
         refine oG rfl rfl rfl (q_pickT rfl rfl) rfl (cI (cT (cT (cI (cT (cT cP)))))) ?_
         refine oQ rfl (q_pickF rfl rfl) rfl (cI (cT (cT (cI (cT (cT cP)))))) ?_
         refine AtO.done ?_
         refine aS 1 rfl rfl ?_
         refine aQ (q_fieldAddr s109 rfl rfl rfl) rfl ?_
         refine At.say 136 (.bool (badAt x.p k (j + 1))) rfl (congrArg Value.bool (by rw [hbs, lo_bad, hl1, hl2]; simp [hneg, hout, hmet, hleaf, hj, h7, h8, h11] <;> (try simp_all) <;> omega)) ?_
         refine At.loudN (l_store t4 rfl rfl (i := 1) rfl rfl rfl rfl) ?_
         rintro _ _ _ ⟨rfl, rfl⟩
         refine aN (At.inNormal (aT (aR ?_)))
         refine aQ (q_add rfl rfl (by omega) (by omega)) rfl ?_
         refine aS 1 rfl rfl ?_
         refine aN ?_
         refine At.front 1 rfl ?_
         refine aT ?_
         exact At.againK (j + 1) hj1 (by (try dsimp only); omega) (Tells.end 44 ⟨rfl, trivial⟩ rfl rfl) (fun _ h => h) (k_ (d_ r_))
        ·
         refine AtO.shut rfl rfl rfl rfl (cI (cT (cT (cI (cT (cT cP)))))) ?_
         refine AtO.shut rfl rfl rfl rfl (cI (cT (cT (cI (cT (cT cP)))))) ?_
         refine AtO.shut rfl rfl rfl rfl (cI (cT (cT (cI (cT (cT cP)))))) ?_
         refine AtO.shut rfl rfl rfl rfl (cI (cT (cT (cI (cT (cT cP)))))) ?_
         refine AtO.shut rfl rfl rfl rfl (cI (cT (cT (cI (cT (cT cP)))))) ?_
         refine AtO.shut rfl rfl rfl rfl (cI (cT (cT (cI (cT (cT cP)))))) ?_
         refine oG rfl rfl rfl (q_pickF rfl rfl) rfl (cI (cT (cT (cI (cT (cT cP)))))) ?_
         refine oQ rfl (q_pickF rfl rfl) rfl (cI (cT (cT (cI (cT (cT cP)))))) ?_
         refine AtO.done ?_
         refine aS 1 rfl rfl ?_
         refine aQ (q_fieldAddr s109 rfl rfl rfl) rfl ?_
         refine At.say 136 (.bool (badAt x.p k (j + 1))) rfl (congrArg Value.bool (by rw [hbs, lo_bad, hl1, hl2]; simp [hneg, hout, hmet, hleaf, hj, h7, h8, h11] <;> (try simp_all) <;> omega)) ?_
         refine At.loudN (l_store t4 rfl rfl (i := 1) rfl rfl rfl rfl) ?_
         rintro _ _ _ ⟨rfl, rfl⟩
         refine aN (At.inNormal (aT (aR ?_)))
         refine aQ (q_add rfl rfl (by omega) (by omega)) rfl ?_
         refine aS 1 rfl rfl ?_
         refine aN ?_
         refine At.front 1 rfl ?_
         refine aT ?_
         exact At.againK (j + 1) hj1 (by (try dsimp only); omega) (Tells.end 44 ⟨rfl, trivial⟩ rfl rfl) (fun _ h => h) (k_ (d_ r_))
     ·
      have hbe := badAt_end (n := x.p) (k := k) (j := j) (by show x.ps.l.length ≤ j; omega)
      have hxs := hsm x (List.mem_of_getElem? hx)
      refine At.exit (At.thenExit (At.thenExit (At.inHere rfl (aT (aE (aR ?_))))))
      refine aF s33 t31 rfl rfl rfl (Rd.loc (i := 1) rfl rfl) rfl rfl ?_
      refine At.loud (l_appendNew rfl Try.underlying31 t50 rfl rfl (.head _) (by simp) rfl (by omega) (by unfold maxLen; omega) rfl) rfl ?_
      rintro _ _ _ ⟨a3, c3, rfl, rfl, rfl⟩
      refine aQ (q_fieldAddr s33 rfl rfl rfl) rfl ?_
      refine At.loudN (l_store t31 rfl rfl (i := 1) rfl rfl rfl rfl) ?_
      rintro _ _ _ ⟨rfl, rfl⟩
      refine aN (aT (aE ?_))
      refine At.draw 8 (.q 0 (.q 1 (.q 2 (.q 3 (.q 4 (.q 5 (.o 6 (.o 7 (.e))))))))) (_ :: _ :: L₀) (k_ (k_ (d_ (d_ r_)))) mixed (by kernel_rfl) rfl ?_
      refine oQ rfl (q_move rfl) rfl (cT (cT cP)) ?_
      refine oQ rfl (q_move rfl) rfl (cT (cT cP)) ?_
      refine oQ rfl (q_nilCheck rfl) rfl (cT (cT cP)) ?_
      refine oQ rfl (q_fieldAddr s109 rfl rfl rfl) rfl (cT (cT cP)) ?_
      refine oQ rfl (q_load t22 rfl (Rd.loc (i := 0) rfl rfl)) rfl (cT (cT cP)) ?_
      refine oQ rfl (q_loadS t33 rfl (RdS.loc (i := 1) rfl (m := 6) rfl) rfl) rfl (cT (cT cP)) ?_
      refine AtO.loud rfl (l_buildSlice Try.underlying22 t33 rfl rfl rfl rfl rfl) rfl (by rintro _ _ _ ⟨_, rfl, rfl, rfl⟩; exact ⟨fun _ h => h, d_ (k_ (k_ (d_ (d_ r_))))⟩) ?_
      rintro _ _ _ ⟨b3, rfl, rfl, rfl⟩
      refine AtO.loudA rfl (l_append rfl Try.underlying22 t33 rfl rfl hO (by simp) (i := 3) rfl rfl (news := [rowN { x with ps := ⟨a3, c3, x.ps.l⟩ }]) (by simp [rowN]) (RdS.loc (i := 0) rfl (m := 6) rfl) rfl rfl rfl (by omega) (by unfold maxLen; omega)) rfl (by rintro _ _ _ ⟨_, _, _, rfl, _, rfl, rfl⟩; exact ⟨fun _ h => h, (d_ (k_ (k_ (d_ (d_ r_)))))⟩) ?_
      rintro _ _ _ ⟨a4, c4, M4, rfl, ow4, rfl, rfl⟩
      refine AtO.done ?_
      refine aS 1 rfl rfl ?_
      refine aQ (q_fieldAddr s109 rfl rfl rfl) rfl ?_
      refine At.loudN (l_store t22 rfl rfl (i := 1) rfl rfl rfl rfl) ?_
      rintro _ _ _ ⟨rfl, rfl⟩
      refine aN (aT (aE (aR ?_)))
      refine At.know (psP (o ++ [{ x with ps := ⟨a3, c3, x.ps.l⟩ }])) (fun _ h => psP_snoc (n := { x with ps := ⟨a3, c3, x.ps.l⟩ }) h.2.2.2.2.2.2.2.1 h.1) ?_
      refine aS 2 rfl rfl ?_
      refine aN (aT (At.ret (At.thenRet ?_)))
      exact At.results (Γr := [_]) (M := [planBox t b a4 (o.length + 1) c4 a2 c2 (badAt x.p k j), M4, _]) rfl (RVals.cons (RVal.tmp rfl) RVals.nil) (ix 3 rfl) (fun _ h => ⟨h.1, trivial⟩) (d_ (k_ (d_ (k_ (k_ r_))))) (NodeEnd.leaf hsh hbe (by simpa using ow4) rfl hxg hS2 hcs.1)
    ·
     have hroute : x.p.route = true := not_f hleaf
     refine At.skip (aT (aE (aE ?_)))
     refine At.draw 32 (.q 0 (.q 1 (.q 2 (.q 3 (.q 4 (.q 5 (.q 6 (.q 7 (.q 8 (.q 9 (.q 10 (.q 11 (.q 12 (.q 13 (.q 14 (.q 15 (.q 16 (.q 17 (.q 18 (.q 19 (.q 20 (.q 21 (.q 22 (.q 23 (.q 24 (.q 25 (.q 26 (.q 27 (.q 28 (.q 29 (.q 30 (.q 31 (.e))))))))))))))))))))))))))))))))) _ (List.Sublist.refl _) mixed (by kernel_rfl) rfl ?_
     refine oQ rfl (q_fieldAddr s33 rfl rfl rfl) rfl (cT (cT cP)) ?_
     refine oQ rfl (q_load t31 rfl (Rd.loc (i := 0) rfl rfl)) rfl (cT (cT cP)) ?_
     refine oQ rfl (q_len Try.underlying31 rfl) rfl (cT (cT cP)) ?_
     refine oQ rfl (q_neq rfl rfl) rfl (cT (cT cP)) ?_
     refine oQ rfl (q_move rfl) rfl (cT (cT cP)) ?_
     refine AtO.splitP (d := 159) rfl (fun hp0 => ?_) (fun hp0 => ?_)
     ·
      refine AtO.shut rfl rfl rfl rfl (cT (cT cP)) ?_
      refine AtO.shut rfl rfl rfl rfl (cT (cT cP)) ?_
      refine AtO.shut rfl rfl rfl rfl (cT (cT cP)) ?_
      refine oQ rfl (q_pickT rfl rfl) rfl (cT (cT cP)) ?_
      refine oQ rfl (q_move rfl) rfl (cT (cT cP)) ?_
      refine AtO.shut rfl rfl rfl rfl (cT (cT cP)) ?_
      refine AtO.shut rfl rfl rfl rfl (cT (cT cP)) ?_
      refine AtO.shut rfl rfl rfl rfl (cT (cT cP)) ?_
      refine AtO.shut rfl rfl rfl rfl (cT (cT cP)) ?_
      refine AtO.shutU rfl rfl rfl (cT (cT cP)) ?_
      refine AtO.shutU rfl rfl rfl (cT (cT cP)) ?_
      refine AtO.shutU rfl rfl rfl (cT (cT cP)) ?_
      refine AtO.shutU rfl rfl rfl (cT (cT cP)) ?_
      refine AtO.shutU rfl rfl rfl (cT (cT cP)) ?_
      refine AtO.shutU rfl rfl rfl (cT (cT cP)) ?_
      refine AtO.shut rfl rfl rfl rfl (cT (cT cP)) ?_
      refine oQ rfl (q_pickT rfl rfl) rfl (cT (cT cP)) ?_
      refine oQ rfl (q_move rfl) rfl (cT (cT cP)) ?_
      refine AtO.shut rfl rfl rfl rfl (cT (cT cP)) ?_
      refine AtO.shut rfl rfl rfl rfl (cT (cT cP)) ?_
      refine AtO.shut rfl rfl rfl rfl (cT (cT cP)) ?_
      refine AtO.shut rfl rfl rfl rfl (cT (cT cP)) ?_
      refine AtO.shutU rfl rfl rfl (cT (cT cP)) ?_
      refine AtO.shutU rfl rfl rfl (cT (cT cP)) ?_
      refine AtO.shutU rfl rfl rfl (cT (cT cP)) ?_
      refine AtO.shutU rfl rfl rfl (cT (cT cP)) ?_
      refine AtO.shutU rfl rfl rfl (cT (cT cP)) ?_
      refine AtO.done ?_
      refine aS 3 rfl rfl ?_
      refine aN (aT ?_)
      refine At.condT rfl ?_
      refine aE (aR ?_)
      refine aS 2 rfl rfl ?_
      refine aQ (q_fieldAddr s109 rfl rfl rfl) rfl ?_
      refine At.loudN (l_store t4 rfl rfl (i := 1) rfl rfl rfl rfl) ?_
      rintro _ _ _ ⟨rfl, rfl⟩
      refine aN (aT (aE (aR ?_)))
      refine aS 1 rfl rfl ?_
      refine aN (aT (At.ret (At.thenRet ?_)))
      exact At.results (Γr := [psP o]) (M := [(planBox t b a o.length c a2 c2 true), Mo, _]) rfl (RVals.cons (RVal.tmp rfl) RVals.nil) (ix 1 rfl) (fun _ h => ⟨h.2.2.2.2.2.2.1, trivial⟩) (d_ (k_ (k_ (k_ r_)))) (NodeEnd.no (sh_bad hxp hroute (rb1 (show x.ps.l.length ≠ 0 by omega))) hO)
     ·
      refine oG rfl rfl rfl (q_fieldAddr s33 rfl rfl rfl) rfl (cT (cT cP)) ?_
      refine oG rfl rfl rfl (q_load t3 rfl (Rd.loc (i := 0) rfl rfl)) rfl (cT (cT cP)) ?_
      refine oG rfl rfl rfl (q_neq rfl rfl) rfl (cT (cT cP)) ?_
      refine oQ rfl (q_pickF rfl rfl) rfl (cT (cT cP)) ?_
      refine oQ rfl (q_move rfl) rfl (cT (cT cP)) ?_
      refine AtO.splitP (d := 164) rfl (fun hst => ?_) (fun hst => ?_)
      ·
       refine AtO.shut rfl rfl rfl rfl (cT (cT cP)) ?_
       refine AtO.shut rfl rfl rfl rfl (cT (cT cP)) ?_
       refine AtO.shut rfl rfl rfl rfl (cT (cT cP)) ?_
       refine AtO.shut rfl rfl rfl rfl (cT (cT cP)) ?_
       refine AtO.shutU rfl rfl rfl (cT (cT cP)) ?_
       refine AtO.shutU rfl rfl rfl (cT (cT cP)) ?_
       refine AtO.shutU rfl rfl rfl (cT (cT cP)) ?_
       refine AtO.shutU rfl rfl rfl (cT (cT cP)) ?_
       refine AtO.shutU rfl rfl rfl (cT (cT cP)) ?_
       refine AtO.shutU rfl rfl rfl (cT (cT cP)) ?_
       refine AtO.shut rfl rfl rfl rfl (cT (cT cP)) ?_
       refine oQ rfl (q_pickT rfl rfl) rfl (cT (cT cP)) ?_
       refine oQ rfl (q_move rfl) rfl (cT (cT cP)) ?_
       refine AtO.shut rfl rfl rfl rfl (cT (cT cP)) ?_
       refine AtO.shut rfl rfl rfl rfl (cT (cT cP)) ?_
       refine AtO.shut rfl rfl rfl rfl (cT (cT cP)) ?_
       refine AtO.shut rfl rfl rfl rfl (cT (cT cP)) ?_
       refine AtO.shutU rfl rfl rfl (cT (cT cP)) ?_
       refine AtO.shutU rfl rfl rfl (cT (cT cP)) ?_
       refine AtO.shutU rfl rfl rfl (cT (cT cP)) ?_
       refine AtO.shutU rfl rfl rfl (cT (cT cP)) ?_
       refine AtO.shutU rfl rfl rfl (cT (cT cP)) ?_
       refine AtO.done ?_
       refine aS 3 rfl rfl ?_
       refine aN (aT ?_)
       refine At.condT rfl ?_
       refine aE (aR ?_)
       refine aS 2 rfl rfl ?_
       refine aQ (q_fieldAddr s109 rfl rfl rfl) rfl ?_
       refine At.loudN (l_store t4 rfl rfl (i := 1) rfl rfl rfl rfl) ?_
       rintro _ _ _ ⟨rfl, rfl⟩
       refine aN (aT (aE (aR ?_)))
       refine aS 1 rfl rfl ?_
       refine aN (aT (At.ret (At.thenRet ?_)))
       exact At.results (Γr := [psP o]) (M := [(planBox t b a o.length c a2 c2 true), Mo, _]) rfl (RVals.cons (RVal.tmp rfl) RVals.nil) (ix 1 rfl) (fun _ h => ⟨h.2.2.2.2.2.2.1, trivial⟩) (d_ (k_ (k_ (k_ r_)))) (NodeEnd.no (sh_bad hxp hroute (rb2 hst)) hO)
      ·
       refine oG rfl rfl rfl (q_move rfl) rfl (cT (cT cP)) ?_
       refine oG rfl rfl rfl (q_len Try.underlying37 rfl) rfl (cT (cT cP)) ?_
       refine oG rfl rfl rfl (q_gtr rfl rfl) rfl (cT (cT cP)) ?_
       refine oG rfl rfl rfl (q_move rfl) rfl (cT (cT cP)) ?_
       refine AtO.splitP (d := 168) rfl (fun hL => ?_) (fun hL => ?_)
       ·
        refine oG rfl rfl rfl (q_fieldAddr s33 rfl rfl rfl) rfl (cT (cT cP)) ?_
        refine oG rfl rfl rfl (q_load t3 rfl (Rd.loc (i := 0) rfl rfl)) rfl (cT (cT cP)) ?_
        refine oG rfl rfl rfl (q_move rfl) rfl (cT (cT cP)) ?_
        refine oG rfl rfl rfl (q_index Try.underlying37 t3 rfl (ix 4 rfl) (by simp) rfl rfl (lt_of_get (lo_get hlo hL))) rfl (cT (cT cP)) ?_
        refine oG rfl rfl rfl (q_load t3 rfl (Rd.sl0 (ix 4 rfl) (map_get (lo_get hlo hL)) rfl)) rfl (cT (cT cP)) ?_
        refine oG rfl rfl rfl (q_leq rfl rfl) rfl (cT (cT cP)) ?_
        refine oG rfl rfl rfl (q_pickT rfl rfl) rfl (cT (cT cP)) ?_
        refine oQ rfl (q_pickF rfl rfl) rfl (cT (cT cP)) ?_
        refine oQ rfl (q_move rfl) rfl (cT (cT cP)) ?_
        refine AtO.splitP (d := 177) rfl (fun hk1 => ?_) (fun hk1 => ?_)
        ·
         refine AtO.shut rfl rfl rfl rfl (cT (cT cP)) ?_
         refine AtO.shut rfl rfl rfl rfl (cT (cT cP)) ?_
         refine AtO.shut rfl rfl rfl rfl (cT (cT cP)) ?_
         refine AtO.shut rfl rfl rfl rfl (cT (cT cP)) ?_
         refine AtO.shutU rfl rfl rfl (cT (cT cP)) ?_
         refine AtO.shutU rfl rfl rfl (cT (cT cP)) ?_
         refine AtO.shutU rfl rfl rfl (cT (cT cP)) ?_
         refine AtO.shutU rfl rfl rfl (cT (cT cP)) ?_
         refine AtO.shutU rfl rfl rfl (cT (cT cP)) ?_
         refine AtO.done ?_
         refine aS 3 rfl rfl ?_
         refine aN (aT ?_)
         refine At.condT rfl ?_
         refine aE (aR ?_)
         refine aS 2 rfl rfl ?_
         refine aQ (q_fieldAddr s109 rfl rfl rfl) rfl ?_
         refine At.loudN (l_store t4 rfl rfl (i := 1) rfl rfl rfl rfl) ?_
         rintro _ _ _ ⟨rfl, rfl⟩
         refine aN (aT (aE (aR ?_)))
         refine aS 1 rfl rfl ?_
         refine aN (aT (At.ret (At.thenRet ?_)))
         exact At.results (Γr := [psP o]) (M := [(planBox t b a o.length c a2 c2 true), Mo, _]) rfl (RVals.cons (RVal.tmp rfl) RVals.nil) (ix 1 rfl) (fun _ h => ⟨h.2.2.2.2.2.2.1, trivial⟩) (d_ (k_ (k_ (k_ r_)))) (NodeEnd.no (sh_bad hxp hroute (rb3 (by rw [hl1, decide_eq_true hL]) hk1)) hO)
        ·
         refine oG rfl rfl rfl (q_move rfl) rfl (cT (cT cP)) ?_
         refine oG rfl rfl rfl (q_len Try.underlying37 rfl) rfl (cT (cT cP)) ?_
         refine oG rfl rfl rfl (q_gtr rfl rfl) rfl (cT (cT cP)) ?_
         refine oG rfl rfl rfl (q_move rfl) rfl (cT (cT cP)) ?_
         refine AtO.splitP (d := 181) rfl (fun hH => ?_) (fun hH => ?_)
         ·
          refine oG rfl rfl rfl (q_fieldAddr s33 rfl rfl rfl) rfl (cT (cT cP)) ?_
          refine oG rfl rfl rfl (q_load t3 rfl (Rd.loc (i := 0) rfl rfl)) rfl (cT (cT cP)) ?_
          refine oG rfl rfl rfl (q_move rfl) rfl (cT (cT cP)) ?_
          refine oG rfl rfl rfl (q_index Try.underlying37 t3 rfl (ix 5 rfl) (by simp) rfl rfl (lt_of_get (hi_get hhi hH))) rfl (cT (cT cP)) ?_
          refine oG rfl rfl rfl (q_load t3 rfl (Rd.sl0 (ix 5 rfl) (map_get (hi_get hhi hH)) rfl)) rfl (cT (cT cP)) ?_
          refine AtO.done ?_
          refine aS 3 rfl rfl ?_
          refine aN (aT ?_)
          refine At.if rfl (fun hk2 => ?_) (fun hk2 => ?_)
          ·
           refine aE (aR ?_)
           refine aS 2 rfl rfl ?_
           refine aQ (q_fieldAddr s109 rfl rfl rfl) rfl ?_
           refine At.loudN (l_store t4 rfl rfl (i := 1) rfl rfl rfl rfl) ?_
           rintro _ _ _ ⟨rfl, rfl⟩
           refine aN (aT (aE (aR ?_)))
           refine aS 1 rfl rfl ?_
           refine aN (aT (At.ret (At.thenRet ?_)))
           exact At.results (Γr := [psP o]) (M := [(planBox t b a o.length c a2 c2 true), Mo, _]) rfl (RVals.cons (RVal.tmp rfl) RVals.nil) (ix 1 rfl) (fun _ h => ⟨h.2.2.2.2.2.2.1, trivial⟩) (d_ (k_ (k_ (k_ r_)))) (NodeEnd.no (sh_bad hxp hroute (rb4 (by rw [hl2, decide_eq_true hH]) hk2)) hO)
          ·
           have hgood : routeOk x.p k = true := rgood (show x.ps.l.length = 0 by omega) (show x.stat = 0 by omega) (fun h => by rw [hl1] at h; have := of_decide_eq_true h; show k.least < x.key; omega) (fun h => by rw [hl2] at h; have := of_decide_eq_true h; show x.key < k.most; omega)
           obtain ⟨hpl, hps⟩ := route_pure hgood
           refine At.skip (aT (aE ?_))
           refine At.draw 10 (.q 0 (.q 1 (.q 2 (.q 3 (.q 4 (.q 5 (.q 6 (.q 7 (.o 8 (.o 9 (.e))))))))))) (_ :: _ :: L₀) (k_ (k_ (d_ (d_ r_)))) mixed (by kernel_rfl) rfl ?_
           refine oQ rfl (q_move rfl) rfl (cT cP) ?_
           refine oQ rfl (q_move rfl) rfl (cT cP) ?_
           refine oQ rfl (q_nilCheck rfl) rfl (cT cP) ?_
           refine oQ rfl (q_fieldAddr s109 rfl rfl rfl) rfl (cT cP) ?_
           refine oQ rfl (q_load t22 rfl (Rd.loc (i := 1) rfl rfl)) rfl (cT cP) ?_
           refine oQ rfl (q_fieldAddr s33 rfl rfl rfl) rfl (cT cP) ?_
           refine oQ rfl (q_load t3 rfl (Rd.loc (i := 0) rfl rfl)) rfl (cT cP) ?_
           refine oQ rfl (q_build t33 s33 rfl rfl) rfl (cT cP) ?_
           refine AtO.loud rfl (l_buildSlice Try.underlying22 t33 rfl rfl rfl rfl rfl) rfl (by rintro _ _ _ ⟨_, rfl, rfl, rfl⟩; exact ⟨fun _ h => h, d_ (k_ (k_ (d_ (d_ r_))))⟩) ?_
           rintro _ _ _ ⟨b4, rfl, rfl, rfl⟩
           refine AtO.loudA rfl (l_append rfl Try.underlying22 t33 rfl rfl hO (by simp) (i := 3) rfl rfl (news := [rowN (⟨true, x.key, 0, 0, ⟨none, 0, []⟩, 0⟩ : Nd)]) (by simp [rowN]) (RdS.loc (i := 0) rfl (m := 6) rfl) rfl rfl rfl (by omega) (by unfold maxLen; omega)) rfl (by rintro _ _ _ ⟨_, _, _, rfl, _, rfl, rfl⟩; exact ⟨fun _ h => h, (d_ (k_ (k_ (d_ (d_ r_)))))⟩) ?_
           rintro _ _ _ ⟨a4, c4, M4, rfl, ow4, rfl, rfl⟩
           refine AtO.done ?_
           refine aS 1 rfl rfl ?_
           refine aQ (q_fieldAddr s109 rfl rfl rfl) rfl ?_
           refine At.say 202 (.slice a4 (o ++ [(⟨true, x.key, 0, 0, ⟨none, 0, []⟩, 0⟩ : Nd)]).length c4) rfl (by simp) ?_
           refine At.loudN (l_store t22 rfl rfl (i := 2) rfl rfl rfl rfl) ?_
           rintro _ _ _ ⟨rfl, rfl⟩
           refine aN (aT (aE (aR ?_)))
           have hO4 : Own 33 6 ((o ++ [(⟨true, x.key, 0, 0, ⟨none, 0, []⟩, 0⟩ : Nd)]).map rowN) a4 c4 M4 := by simpa using ow4
           refine At.know (prsP ⟨none, 0, []⟩) (fun _ h => sl_nil _ _ _ (Nat.zero_le _)) ?_
           refine At.know (psP (o ++ [(⟨true, x.key, 0, 0, ⟨none, 0, []⟩, 0⟩ : Nd)])) (fun _ h => psP_snoc (n := (⟨true, x.key, 0, 0, ⟨none, 0, []⟩, 0⟩ : Nd)) h.2.2.2.2.2.2.2.1 h.1) ?_
           refine aS 1 rfl rfl ?_
           refine aF s33 t3 rfl rfl rfl (Rd.loc (i := 1) rfl rfl) rfl rfl ?_
           refine aS 1 rfl rfl ?_
           refine aF s33 t3 rfl rfl rfl (Rd.loc (i := 1) rfl rfl) rfl rfl ?_
           refine At.loud (l_buildSlice Try.underlying37 t3 rfl rfl rfl rfl rfl) rfl ?_
           rintro _ _ _ ⟨b5, rfl, rfl, rfl⟩
           refine At.freeze 0 (φ := intsP ⟨some ⟨b5, 0, none⟩, 1, [x.key]⟩) rfl (fun _ h => sl_of_block h rfl (by simp [rowI]) rfl (show (1 : Nat) ≤ maxLen from by decide)) ?_
           refine At.front 4 rfl ?_
           refine At.front 4 rfl ?_
           refine At.front 4 rfl ?_
           refine At.call en77 rfl (ih (i :: met) x.left (k.lefts x.key) lw ⟨_, _, [x.key]⟩ b (o ++ [(⟨true, x.key, 0, 0, ⟨none, 0, []⟩, 0⟩ : Nd)]) a4 c4 M4 a2 c2 _ (by omega) hO4 hS2 (by simp; omega) hlo rfl) (fun _ h => ⟨h.2.2.2.2.2.1, h.2.2.2.2.2.2.1, h.2.2.2.2.2.2.2.1, h.1, h.2.1, trivial⟩) (List.Perm.refl _) rfl ?_
           rintro _ _ _ ⟨q1, a5, c5, M5, M6, bad1, v1, rfl, rfl, rfl, hO5, hb5, hs5, hn5⟩
           refine aS 1 rfl rfl ?_
           refine aN (aT (aE (aR ?_)))
           rcases hsl : shape t.p.ns f (i :: met) x.left (k.lefts x.key) with _ | sl
           ·
            have hb1 : bad1 = true := hn5 hsl
            subst hb1
            have hO6 : Own 33 6 ((o ++ (⟨true, x.key, 0, 0, ⟨none, 0, []⟩, 0⟩ : Nd) :: q1).map rowN) a5 c5 M5 := by simpa using hO5
            have hno := sh_left hxp hroute hgood hsl
            refine aS 1 rfl rfl ?_
            refine aF s33 t3 rfl rfl rfl (Rd.loc (i := 4) rfl rfl) rfl rfl ?_
            refine aF s33 t3 rfl rfl rfl (Rd.loc (i := 4) rfl rfl) rfl rfl ?_
            refine At.loud (l_buildSlice Try.underlying37 t3 rfl rfl rfl rfl rfl) rfl ?_
            rintro _ _ _ ⟨b6, rfl, rfl, rfl⟩
            refine aS 1 rfl rfl ?_
            refine At.front 1 rfl ?_
            refine At.call en77 rfl (node77b t b x.right _ _ _ _) (fun _ _ => trivial) (List.Perm.refl _) rfl ?_
            rintro _ _ _ ⟨rfl, rfl, rfl⟩
            refine aS 1 rfl rfl ?_
            refine aN (aT (aE ?_))
            refine At.draw 15 (.q 0 (.q 1 (.q 2 (.q 3 (.q 4 (.q 5 (.q 6 (.q 7 (.q 8 (.q 9 (.q 10 (.q 11 (.q 12 (.q 13 (.o 14 (.e)))))))))))))))) (_ :: _ :: _ :: _ :: L₀) (k_ (k_ (d_ (d_ (k_ (k_ r_)))))) mixed (by kernel_rfl) rfl ?_
            refine oQ rfl (q_move rfl) rfl (cT cP) ?_
            refine oQ rfl (q_nilCheck rfl) rfl (cT cP) ?_
            refine oQ rfl (q_fieldAddr s109 rfl rfl rfl) rfl (cT cP) ?_
            refine oQ rfl (q_load t22 rfl (Rd.loc (i := 0) rfl rfl)) rfl (cT cP) ?_
            refine oQ rfl (q_move rfl) rfl (cT cP) ?_
            refine oQ rfl (q_move rfl) rfl (cT cP) ?_
            refine oQ rfl (q_nilCheck rfl) rfl (cT cP) ?_
            refine oQ rfl (q_fieldAddr s109 rfl rfl rfl) rfl (cT cP) ?_
            refine oQ rfl (q_load t22 rfl (Rd.loc (i := 0) rfl rfl)) rfl (cT cP) ?_
            refine oQ rfl (q_move rfl) rfl (cT cP) ?_
            refine oQ rfl (q_move rfl) rfl (cT cP) ?_
            refine oQ rfl (q_move rfl) rfl (cT cP) ?_
            refine oQ rfl (q_indexOwn Try.underlying22 t33 rfl hO6 (by simp) rfl rfl (by simp)) rfl (cT cP) ?_
            refine oQ rfl (q_fieldAddr s33 rfl rfl rfl) rfl (cT cP) ?_
            refine AtO.loudNA rfl (l_storeOwn t3 rfl rfl hO6 (i := 2) rfl (get_mid o q1 _) rfl rfl rfl) (by rintro _ _ _ ⟨_, _, rfl, rfl⟩; exact ⟨fun _ h => h, (k_ (k_ (d_ (d_ (k_ (k_ r_))))))⟩) ?_
            rintro _ _ _ ⟨Mow12, ow12, rfl, rfl⟩
            refine AtO.done ?_
            refine aQ (q_indexOwn Try.underlying22 t33 rfl hO6 (by simp) rfl rfl (by simp)) rfl ?_
            refine aQ (q_fieldAddr s33 rfl rfl rfl) rfl ?_
            refine At.loudN (l_storeOwn t3 rfl rfl (show Own 33 6 ((o ++ (⟨true, x.key, v1, 0, ⟨none, 0, []⟩, 0⟩ : Nd) :: q1).map rowN) a5 c5 _ by rw [← set_mid o q1 (⟨true, x.key, 0, 0, ⟨none, 0, []⟩, 0⟩ : Nd)]; exact ow12) (i := 2) rfl (get_mid o q1 (⟨true, x.key, v1, 0, ⟨none, 0, []⟩, 0⟩ : Nd)) rfl rfl rfl) ?_
            rintro _ _ _ ⟨Mow13, ow13, rfl, rfl⟩
            refine aN (aT (aE (aR ?_)))
            have hO8 : Own 33 6 ((o ++ (⟨true, x.key, v1, 0, ⟨none, 0, []⟩, 0⟩ : Nd) :: q1).map rowN) a5 c5 Mow13 := by rw [← set_mid o q1 (⟨true, x.key, v1, 0, ⟨none, 0, []⟩, 0⟩ : Nd)]; exact ow13
            refine At.know (psP (o ++ (⟨true, x.key, v1, 0, ⟨none, 0, []⟩, 0⟩ : Nd) :: q1)) (fun _ h => psP_mid (n := (⟨true, x.key, 0, 0, ⟨none, 0, []⟩, 0⟩ : Nd)) (m := (⟨true, x.key, v1, 0, ⟨none, 0, []⟩, 0⟩ : Nd)) (by simpa using h.1) h.2.2.2.1) ?_
            refine aS 2 rfl rfl ?_
            refine aN (aT (At.ret ?_))
            exact At.results (Γr := [_]) (M := [planBox t b a5 ((o ++ [(⟨true, x.key, 0, 0, ⟨none, 0, []⟩, 0⟩ : Nd)]) ++ q1).length c5 a2 c2 true, _, _]) rfl (RVals.cons (RVal.tmp rfl) RVals.nil) (ix 6 rfl) (fun _ h => ⟨h.1, trivial⟩) (k_ (d_ (k_ (k_ (d_ (d_ r_)))))) (NodeEnd.left (q := (⟨true, x.key, v1, 0, ⟨none, 0, []⟩, 0⟩ : Nd) :: q1) hno hO8 (by simp) (by have := hcs.1; simp at hb5 ⊢; omega))
           ·
            obtain ⟨rfl, rfl, hq1, hS5, hlen5⟩ := hs5 sl hsl
            have hcm := count_more t.ns.l.length sl.places (i :: met)
            have hc1 := hcs.1
            refine aS 1 rfl rfl ?_
            refine aF s33 t3 rfl rfl rfl (Rd.loc (i := 4) rfl rfl) rfl rfl ?_
            refine aF s33 t3 rfl rfl rfl (Rd.loc (i := 4) rfl rfl) rfl rfl ?_
            refine At.loud (l_buildSlice Try.underlying37 t3 rfl rfl rfl rfl rfl) rfl ?_
            rintro _ _ _ ⟨b7, rfl, rfl, rfl⟩
            refine aS 1 rfl rfl ?_
            refine At.freeze 0 (φ := intsP ⟨some ⟨b7, 0, none⟩, 1, [x.key]⟩) rfl (fun _ h => sl_of_block h rfl (by simp [rowI]) rfl (show (1 : Nat) ≤ maxLen from by decide)) ?_
            refine At.front 2 rfl ?_
            refine At.front 2 rfl ?_
            refine At.front 2 rfl ?_
            refine At.call en77 rfl (ih (sl.places ++ i :: met) x.right (k.rights x.key) ⟨_, _, [x.key]⟩ hw b ((o ++ [(⟨true, x.key, 0, 0, ⟨none, 0, []⟩, 0⟩ : Nd)]) ++ q1) a5 c5 M5 a2 c2 M6 (by omega) hO5 hS5 (by have h1 := hlen5; simp only [List.length_append, List.length_singleton] at h1 ⊢; omega) rfl hhi) (fun _ h => ⟨h.2.2.2.2.2.2.2.1, h.2.2.2.2.2.2.2.2.1, h.1, h.2.2.2.2.2.2.2.2.2.2.1, h.2.1, trivial⟩) (List.Perm.refl _) rfl ?_
            rintro _ _ _ ⟨q2, a6, c6, M7, M8, bad2, v2, rfl, rfl, rfl, hO9, hb9, hs9, hn9⟩
            refine aS 1 rfl rfl ?_
            refine aN (aT (aE ?_))
            have hO6 : Own 33 6 ((o ++ (⟨true, x.key, 0, 0, ⟨none, 0, []⟩, 0⟩ : Nd) :: (q1 ++ q2)).map rowN) a6 c6 M7 := by simpa using hO9
            refine At.draw 15 (.q 0 (.q 1 (.q 2 (.q 3 (.q 4 (.q 5 (.q 6 (.q 7 (.q 8 (.q 9 (.q 10 (.q 11 (.q 12 (.q 13 (.o 14 (.e)))))))))))))))) (_ :: _ :: _ :: L₀) (k_ (d_ (d_ (k_ (k_ r_))))) mixed (by kernel_rfl) rfl ?_
            refine oQ rfl (q_move rfl) rfl (cT cP) ?_
            refine oQ rfl (q_nilCheck rfl) rfl (cT cP) ?_
            refine oQ rfl (q_fieldAddr s109 rfl rfl rfl) rfl (cT cP) ?_
            refine oQ rfl (q_load t22 rfl (Rd.loc (i := 0) rfl rfl)) rfl (cT cP) ?_
            refine oQ rfl (q_move rfl) rfl (cT cP) ?_
            refine oQ rfl (q_move rfl) rfl (cT cP) ?_
            refine oQ rfl (q_nilCheck rfl) rfl (cT cP) ?_
            refine oQ rfl (q_fieldAddr s109 rfl rfl rfl) rfl (cT cP) ?_
            refine oQ rfl (q_load t22 rfl (Rd.loc (i := 0) rfl rfl)) rfl (cT cP) ?_
            refine oQ rfl (q_move rfl) rfl (cT cP) ?_
            refine oQ rfl (q_move rfl) rfl (cT cP) ?_
            refine oQ rfl (q_move rfl) rfl (cT cP) ?_
            refine oQ rfl (q_indexOwn Try.underlying22 t33 rfl hO6 (by simp) rfl rfl (by simp)) rfl (cT cP) ?_
            refine oQ rfl (q_fieldAddr s33 rfl rfl rfl) rfl (cT cP) ?_
            refine AtO.loudNA rfl (l_storeOwn t3 rfl rfl hO6 (i := 1) rfl (get_mid o (q1 ++ q2) _) rfl rfl rfl) (by rintro _ _ _ ⟨_, _, rfl, rfl⟩; exact ⟨fun _ h => h, (k_ (d_ (d_ (k_ (k_ r_)))))⟩) ?_
            rintro _ _ _ ⟨Mow14, ow14, rfl, rfl⟩
            refine AtO.done ?_
            refine aQ (q_indexOwn Try.underlying22 t33 rfl hO6 (by simp) rfl rfl (by simp)) rfl ?_
            refine aQ (q_fieldAddr s33 rfl rfl rfl) rfl ?_
            refine At.loudN (l_storeOwn t3 rfl rfl (show Own 33 6 ((o ++ (⟨true, x.key, (((o ++ [(⟨true, x.key, 0, 0, ⟨none, 0, []⟩, 0⟩ : Nd)]).length : Nat) : Int), 0, ⟨none, 0, []⟩, 0⟩ : Nd) :: (q1 ++ q2)).map rowN) a6 c6 _ by rw [← set_mid o (q1 ++ q2) (⟨true, x.key, 0, 0, ⟨none, 0, []⟩, 0⟩ : Nd)]; exact ow14) (i := 1) rfl (get_mid o (q1 ++ q2) (⟨true, x.key, (((o ++ [(⟨true, x.key, 0, 0, ⟨none, 0, []⟩, 0⟩ : Nd)]).length : Nat) : Int), 0, ⟨none, 0, []⟩, 0⟩ : Nd)) rfl rfl rfl) ?_
            rintro _ _ _ ⟨Mow15, ow15, rfl, rfl⟩
            refine aN (aT (aE (aR ?_)))
            have hO8 : Own 33 6 ((o ++ (⟨true, x.key, (((o ++ [(⟨true, x.key, 0, 0, ⟨none, 0, []⟩, 0⟩ : Nd)]).length : Nat) : Int), v2, ⟨none, 0, []⟩, 0⟩ : Nd) :: (q1 ++ q2)).map rowN) a6 c6 Mow15 := by rw [← set_mid o (q1 ++ q2) (⟨true, x.key, (((o ++ [(⟨true, x.key, 0, 0, ⟨none, 0, []⟩, 0⟩ : Nd)]).length : Nat) : Int), 0, ⟨none, 0, []⟩, 0⟩ : Nd)]; exact ow15
            refine At.know (psP (o ++ (⟨true, x.key, (((o ++ [(⟨true, x.key, 0, 0, ⟨none, 0, []⟩, 0⟩ : Nd)]).length : Nat) : Int), v2, ⟨none, 0, []⟩, 0⟩ : Nd) :: (q1 ++ q2))) (fun _ h => psP_mid (n := (⟨true, x.key, 0, 0, ⟨none, 0, []⟩, 0⟩ : Nd)) (m := (⟨true, x.key, (((o ++ [(⟨true, x.key, 0, 0, ⟨none, 0, []⟩, 0⟩ : Nd)]).length : Nat) : Int), v2, ⟨none, 0, []⟩, 0⟩ : Nd)) (by simpa using h.1) h.2.2.2.2.2.1) ?_
            refine aS 2 rfl rfl ?_
            refine aN (aT (At.ret ?_))
            exact At.results (Γr := [_]) (M := [planBox t b a6 (((o ++ [(⟨true, x.key, 0, 0, ⟨none, 0, []⟩, 0⟩ : Nd)]) ++ q1) ++ q2).length c6 a2 c2 bad2, _, M8]) rfl (RVals.cons (RVal.tmp rfl) RVals.nil) (ix 8 rfl) (fun _ h => ⟨h.1, trivial⟩) (k_ (k_ (k_ (d_ (d_ r_))))) (NodeEnd.node (sh_right hxp hmet hroute hgood hsl) hxg hroute ⟨hpl, hps⟩ hq1 hO8 rfl hc1 hlen5 hb9 rfl hs9 hn9)
         ·
          have hgood : routeOk x.p k = true := rgood (show x.ps.l.length = 0 by omega) (show x.stat = 0 by omega) (fun h => by rw [hl1] at h; have := of_decide_eq_true h; show k.least < x.key; omega) (fun h => by rw [hl2] at h; have := of_decide_eq_true h; show x.key < k.most; omega)
          obtain ⟨hpl, hps⟩ := route_pure hgood
          refine AtO.shut rfl rfl rfl rfl (cT (cT cP)) ?_
          refine AtO.shut rfl rfl rfl rfl (cT (cT cP)) ?_
          refine AtO.shut rfl rfl rfl rfl (cT (cT cP)) ?_
          refine AtO.shut rfl rfl rfl rfl (cT (cT cP)) ?_
          refine AtO.shut rfl rfl rfl rfl (cT (cT cP)) ?_
          refine AtO.done ?_
          refine aS 3 rfl rfl ?_
          refine aN (aT ?_)
          refine At.condF rfl ?_
          refine At.skip (aT (aE ?_))
          refine At.draw 10 (.q 0 (.q 1 (.q 2 (.q 3 (.q 4 (.q 5 (.q 6 (.q 7 (.o 8 (.o 9 (.e))))))))))) (_ :: _ :: L₀) (k_ (k_ (d_ (d_ r_)))) mixed (by kernel_rfl) rfl ?_
          refine oQ rfl (q_move rfl) rfl (cT cP) ?_
          refine oQ rfl (q_move rfl) rfl (cT cP) ?_
          refine oQ rfl (q_nilCheck rfl) rfl (cT cP) ?_
          refine oQ rfl (q_fieldAddr s109 rfl rfl rfl) rfl (cT cP) ?_
          refine oQ rfl (q_load t22 rfl (Rd.loc (i := 1) rfl rfl)) rfl (cT cP) ?_
          refine oQ rfl (q_fieldAddr s33 rfl rfl rfl) rfl (cT cP) ?_
          refine oQ rfl (q_load t3 rfl (Rd.loc (i := 0) rfl rfl)) rfl (cT cP) ?_
          refine oQ rfl (q_build t33 s33 rfl rfl) rfl (cT cP) ?_
          refine AtO.loud rfl (l_buildSlice Try.underlying22 t33 rfl rfl rfl rfl rfl) rfl (by rintro _ _ _ ⟨_, rfl, rfl, rfl⟩; exact ⟨fun _ h => h, d_ (k_ (k_ (d_ (d_ r_))))⟩) ?_
          rintro _ _ _ ⟨b8, rfl, rfl, rfl⟩
          refine AtO.loudA rfl (l_append rfl Try.underlying22 t33 rfl rfl hO (by simp) (i := 3) rfl rfl (news := [rowN (⟨true, x.key, 0, 0, ⟨none, 0, []⟩, 0⟩ : Nd)]) (by simp [rowN]) (RdS.loc (i := 0) rfl (m := 6) rfl) rfl rfl rfl (by omega) (by unfold maxLen; omega)) rfl (by rintro _ _ _ ⟨_, _, _, rfl, _, rfl, rfl⟩; exact ⟨fun _ h => h, (d_ (k_ (k_ (d_ (d_ r_)))))⟩) ?_
          rintro _ _ _ ⟨a4, c4, M4, rfl, ow4, rfl, rfl⟩
          refine AtO.done ?_
          refine aS 1 rfl rfl ?_
          refine aQ (q_fieldAddr s109 rfl rfl rfl) rfl ?_
          refine At.say 202 (.slice a4 (o ++ [(⟨true, x.key, 0, 0, ⟨none, 0, []⟩, 0⟩ : Nd)]).length c4) rfl (by simp) ?_
          refine At.loudN (l_store t22 rfl rfl (i := 2) rfl rfl rfl rfl) ?_
          rintro _ _ _ ⟨rfl, rfl⟩
          refine aN (aT (aE (aR ?_)))
          have hO4 : Own 33 6 ((o ++ [(⟨true, x.key, 0, 0, ⟨none, 0, []⟩, 0⟩ : Nd)]).map rowN) a4 c4 M4 := by simpa using ow4
          refine At.know (prsP ⟨none, 0, []⟩) (fun _ h => sl_nil _ _ _ (Nat.zero_le _)) ?_
          refine At.know (psP (o ++ [(⟨true, x.key, 0, 0, ⟨none, 0, []⟩, 0⟩ : Nd)])) (fun _ h => psP_snoc (n := (⟨true, x.key, 0, 0, ⟨none, 0, []⟩, 0⟩ : Nd)) h.2.2.2.2.2.2.2.1 h.1) ?_
          refine aS 1 rfl rfl ?_
          refine aF s33 t3 rfl rfl rfl (Rd.loc (i := 1) rfl rfl) rfl rfl ?_
          refine aS 1 rfl rfl ?_
          refine aF s33 t3 rfl rfl rfl (Rd.loc (i := 1) rfl rfl) rfl rfl ?_
          refine At.loud (l_buildSlice Try.underlying37 t3 rfl rfl rfl rfl rfl) rfl ?_
          rintro _ _ _ ⟨b9, rfl, rfl, rfl⟩
          refine At.freeze 0 (φ := intsP ⟨some ⟨b9, 0, none⟩, 1, [x.key]⟩) rfl (fun _ h => sl_of_block h rfl (by simp [rowI]) rfl (show (1 : Nat) ≤ maxLen from by decide)) ?_
          refine At.front 4 rfl ?_
          refine At.front 4 rfl ?_
          refine At.front 4 rfl ?_
          refine At.call en77 rfl (ih (i :: met) x.left (k.lefts x.key) lw ⟨_, _, [x.key]⟩ b (o ++ [(⟨true, x.key, 0, 0, ⟨none, 0, []⟩, 0⟩ : Nd)]) a4 c4 M4 a2 c2 _ (by omega) hO4 hS2 (by simp; omega) hlo rfl) (fun _ h => ⟨h.2.2.2.2.2.1, h.2.2.2.2.2.2.1, h.2.2.2.2.2.2.2.1, h.1, h.2.1, trivial⟩) (List.Perm.refl _) rfl ?_
          rintro _ _ _ ⟨q1, a5, c5, M5, M6, bad1, v1, rfl, rfl, rfl, hO5, hb5, hs5, hn5⟩
          refine aS 1 rfl rfl ?_
          refine aN (aT (aE (aR ?_)))
          rcases hsl : shape t.p.ns f (i :: met) x.left (k.lefts x.key) with _ | sl
          ·
           have hb1 : bad1 = true := hn5 hsl
           subst hb1
           have hO6 : Own 33 6 ((o ++ (⟨true, x.key, 0, 0, ⟨none, 0, []⟩, 0⟩ : Nd) :: q1).map rowN) a5 c5 M5 := by simpa using hO5
           have hno := sh_left hxp hroute hgood hsl
           refine aS 1 rfl rfl ?_
           refine aF s33 t3 rfl rfl rfl (Rd.loc (i := 4) rfl rfl) rfl rfl ?_
           refine aF s33 t3 rfl rfl rfl (Rd.loc (i := 4) rfl rfl) rfl rfl ?_
           refine At.loud (l_buildSlice Try.underlying37 t3 rfl rfl rfl rfl rfl) rfl ?_
           rintro _ _ _ ⟨b10, rfl, rfl, rfl⟩
           refine aS 1 rfl rfl ?_
           refine At.front 1 rfl ?_
           refine At.call en77 rfl (node77b t b x.right _ _ _ _) (fun _ _ => trivial) (List.Perm.refl _) rfl ?_
           rintro _ _ _ ⟨rfl, rfl, rfl⟩
           refine aS 1 rfl rfl ?_
           refine aN (aT (aE ?_))
           refine At.draw 15 (.q 0 (.q 1 (.q 2 (.q 3 (.q 4 (.q 5 (.q 6 (.q 7 (.q 8 (.q 9 (.q 10 (.q 11 (.q 12 (.q 13 (.o 14 (.e)))))))))))))))) (_ :: _ :: _ :: _ :: L₀) (k_ (k_ (d_ (d_ (k_ (k_ r_)))))) mixed (by kernel_rfl) rfl ?_
           refine oQ rfl (q_move rfl) rfl (cT cP) ?_
           refine oQ rfl (q_nilCheck rfl) rfl (cT cP) ?_
           refine oQ rfl (q_fieldAddr s109 rfl rfl rfl) rfl (cT cP) ?_
           refine oQ rfl (q_load t22 rfl (Rd.loc (i := 0) rfl rfl)) rfl (cT cP) ?_
           refine oQ rfl (q_move rfl) rfl (cT cP) ?_
           refine oQ rfl (q_move rfl) rfl (cT cP) ?_
           refine oQ rfl (q_nilCheck rfl) rfl (cT cP) ?_
           refine oQ rfl (q_fieldAddr s109 rfl rfl rfl) rfl (cT cP) ?_
           refine oQ rfl (q_load t22 rfl (Rd.loc (i := 0) rfl rfl)) rfl (cT cP) ?_
           refine oQ rfl (q_move rfl) rfl (cT cP) ?_
           refine oQ rfl (q_move rfl) rfl (cT cP) ?_
           refine oQ rfl (q_move rfl) rfl (cT cP) ?_
           refine oQ rfl (q_indexOwn Try.underlying22 t33 rfl hO6 (by simp) rfl rfl (by simp)) rfl (cT cP) ?_
           refine oQ rfl (q_fieldAddr s33 rfl rfl rfl) rfl (cT cP) ?_
           refine AtO.loudNA rfl (l_storeOwn t3 rfl rfl hO6 (i := 2) rfl (get_mid o q1 _) rfl rfl rfl) (by rintro _ _ _ ⟨_, _, rfl, rfl⟩; exact ⟨fun _ h => h, (k_ (k_ (d_ (d_ (k_ (k_ r_))))))⟩) ?_
           rintro _ _ _ ⟨Mow16, ow16, rfl, rfl⟩
           refine AtO.done ?_
           refine aQ (q_indexOwn Try.underlying22 t33 rfl hO6 (by simp) rfl rfl (by simp)) rfl ?_
           refine aQ (q_fieldAddr s33 rfl rfl rfl) rfl ?_
           refine At.loudN (l_storeOwn t3 rfl rfl (show Own 33 6 ((o ++ (⟨true, x.key, v1, 0, ⟨none, 0, []⟩, 0⟩ : Nd) :: q1).map rowN) a5 c5 _ by rw [← set_mid o q1 (⟨true, x.key, 0, 0, ⟨none, 0, []⟩, 0⟩ : Nd)]; exact ow16) (i := 2) rfl (get_mid o q1 (⟨true, x.key, v1, 0, ⟨none, 0, []⟩, 0⟩ : Nd)) rfl rfl rfl) ?_
           rintro _ _ _ ⟨Mow17, ow17, rfl, rfl⟩
           refine aN (aT (aE (aR ?_)))
           have hO8 : Own 33 6 ((o ++ (⟨true, x.key, v1, 0, ⟨none, 0, []⟩, 0⟩ : Nd) :: q1).map rowN) a5 c5 Mow17 := by rw [← set_mid o q1 (⟨true, x.key, v1, 0, ⟨none, 0, []⟩, 0⟩ : Nd)]; exact ow17
           refine At.know (psP (o ++ (⟨true, x.key, v1, 0, ⟨none, 0, []⟩, 0⟩ : Nd) :: q1)) (fun _ h => psP_mid (n := (⟨true, x.key, 0, 0, ⟨none, 0, []⟩, 0⟩ : Nd)) (m := (⟨true, x.key, v1, 0, ⟨none, 0, []⟩, 0⟩ : Nd)) (by simpa using h.1) h.2.2.2.1) ?_
           refine aS 2 rfl rfl ?_
           refine aN (aT (At.ret ?_))
           exact At.results (Γr := [_]) (M := [planBox t b a5 ((o ++ [(⟨true, x.key, 0, 0, ⟨none, 0, []⟩, 0⟩ : Nd)]) ++ q1).length c5 a2 c2 true, _, _]) rfl (RVals.cons (RVal.tmp rfl) RVals.nil) (ix 6 rfl) (fun _ h => ⟨h.1, trivial⟩) (k_ (d_ (k_ (k_ (d_ (d_ r_)))))) (NodeEnd.left (q := (⟨true, x.key, v1, 0, ⟨none, 0, []⟩, 0⟩ : Nd) :: q1) hno hO8 (by simp) (by have := hcs.1; simp at hb5 ⊢; omega))
          ·
           obtain ⟨rfl, rfl, hq1, hS5, hlen5⟩ := hs5 sl hsl
           have hcm := count_more t.ns.l.length sl.places (i :: met)
           have hc1 := hcs.1
           refine aS 1 rfl rfl ?_
           refine aF s33 t3 rfl rfl rfl (Rd.loc (i := 4) rfl rfl) rfl rfl ?_
           refine aF s33 t3 rfl rfl rfl (Rd.loc (i := 4) rfl rfl) rfl rfl ?_
           refine At.loud (l_buildSlice Try.underlying37 t3 rfl rfl rfl rfl rfl) rfl ?_
           rintro _ _ _ ⟨b11, rfl, rfl, rfl⟩
           refine aS 1 rfl rfl ?_
           refine At.freeze 0 (φ := intsP ⟨some ⟨b11, 0, none⟩, 1, [x.key]⟩) rfl (fun _ h => sl_of_block h rfl (by simp [rowI]) rfl (show (1 : Nat) ≤ maxLen from by decide)) ?_
           refine At.front 2 rfl ?_
           refine At.front 2 rfl ?_
           refine At.front 2 rfl ?_
           refine At.call en77 rfl (ih (sl.places ++ i :: met) x.right (k.rights x.key) ⟨_, _, [x.key]⟩ hw b ((o ++ [(⟨true, x.key, 0, 0, ⟨none, 0, []⟩, 0⟩ : Nd)]) ++ q1) a5 c5 M5 a2 c2 M6 (by omega) hO5 hS5 (by have h1 := hlen5; simp only [List.length_append, List.length_singleton] at h1 ⊢; omega) rfl hhi) (fun _ h => ⟨h.2.2.2.2.2.2.2.1, h.2.2.2.2.2.2.2.2.1, h.1, h.2.2.2.2.2.2.2.2.2.2.1, h.2.1, trivial⟩) (List.Perm.refl _) rfl ?_
           rintro _ _ _ ⟨q2, a6, c6, M7, M8, bad2, v2, rfl, rfl, rfl, hO9, hb9, hs9, hn9⟩
           refine aS 1 rfl rfl ?_
           refine aN (aT (aE ?_))
           have hO6 : Own 33 6 ((o ++ (⟨true, x.key, 0, 0, ⟨none, 0, []⟩, 0⟩ : Nd) :: (q1 ++ q2)).map rowN) a6 c6 M7 := by simpa using hO9
           refine At.draw 15 (.q 0 (.q 1 (.q 2 (.q 3 (.q 4 (.q 5 (.q 6 (.q 7 (.q 8 (.q 9 (.q 10 (.q 11 (.q 12 (.q 13 (.o 14 (.e)))))))))))))))) (_ :: _ :: _ :: L₀) (k_ (d_ (d_ (k_ (k_ r_))))) mixed (by kernel_rfl) rfl ?_
           refine oQ rfl (q_move rfl) rfl (cT cP) ?_
           refine oQ rfl (q_nilCheck rfl) rfl (cT cP) ?_
           refine oQ rfl (q_fieldAddr s109 rfl rfl rfl) rfl (cT cP) ?_
           refine oQ rfl (q_load t22 rfl (Rd.loc (i := 0) rfl rfl)) rfl (cT cP) ?_
           refine oQ rfl (q_move rfl) rfl (cT cP) ?_
           refine oQ rfl (q_move rfl) rfl (cT cP) ?_
           refine oQ rfl (q_nilCheck rfl) rfl (cT cP) ?_
           refine oQ rfl (q_fieldAddr s109 rfl rfl rfl) rfl (cT cP) ?_
           refine oQ rfl (q_load t22 rfl (Rd.loc (i := 0) rfl rfl)) rfl (cT cP) ?_
           refine oQ rfl (q_move rfl) rfl (cT cP) ?_
           refine oQ rfl (q_move rfl) rfl (cT cP) ?_
           refine oQ rfl (q_move rfl) rfl (cT cP) ?_
           refine oQ rfl (q_indexOwn Try.underlying22 t33 rfl hO6 (by simp) rfl rfl (by simp)) rfl (cT cP) ?_
           refine oQ rfl (q_fieldAddr s33 rfl rfl rfl) rfl (cT cP) ?_
           refine AtO.loudNA rfl (l_storeOwn t3 rfl rfl hO6 (i := 1) rfl (get_mid o (q1 ++ q2) _) rfl rfl rfl) (by rintro _ _ _ ⟨_, _, rfl, rfl⟩; exact ⟨fun _ h => h, (k_ (d_ (d_ (k_ (k_ r_)))))⟩) ?_
           rintro _ _ _ ⟨Mow18, ow18, rfl, rfl⟩
           refine AtO.done ?_
           refine aQ (q_indexOwn Try.underlying22 t33 rfl hO6 (by simp) rfl rfl (by simp)) rfl ?_
           refine aQ (q_fieldAddr s33 rfl rfl rfl) rfl ?_
           refine At.loudN (l_storeOwn t3 rfl rfl (show Own 33 6 ((o ++ (⟨true, x.key, (((o ++ [(⟨true, x.key, 0, 0, ⟨none, 0, []⟩, 0⟩ : Nd)]).length : Nat) : Int), 0, ⟨none, 0, []⟩, 0⟩ : Nd) :: (q1 ++ q2)).map rowN) a6 c6 _ by rw [← set_mid o (q1 ++ q2) (⟨true, x.key, 0, 0, ⟨none, 0, []⟩, 0⟩ : Nd)]; exact ow18) (i := 1) rfl (get_mid o (q1 ++ q2) (⟨true, x.key, (((o ++ [(⟨true, x.key, 0, 0, ⟨none, 0, []⟩, 0⟩ : Nd)]).length : Nat) : Int), 0, ⟨none, 0, []⟩, 0⟩ : Nd)) rfl rfl rfl) ?_
           rintro _ _ _ ⟨Mow19, ow19, rfl, rfl⟩
           refine aN (aT (aE (aR ?_)))
           have hO8 : Own 33 6 ((o ++ (⟨true, x.key, (((o ++ [(⟨true, x.key, 0, 0, ⟨none, 0, []⟩, 0⟩ : Nd)]).length : Nat) : Int), v2, ⟨none, 0, []⟩, 0⟩ : Nd) :: (q1 ++ q2)).map rowN) a6 c6 Mow19 := by rw [← set_mid o (q1 ++ q2) (⟨true, x.key, (((o ++ [(⟨true, x.key, 0, 0, ⟨none, 0, []⟩, 0⟩ : Nd)]).length : Nat) : Int), 0, ⟨none, 0, []⟩, 0⟩ : Nd)]; exact ow19
           refine At.know (psP (o ++ (⟨true, x.key, (((o ++ [(⟨true, x.key, 0, 0, ⟨none, 0, []⟩, 0⟩ : Nd)]).length : Nat) : Int), v2, ⟨none, 0, []⟩, 0⟩ : Nd) :: (q1 ++ q2))) (fun _ h => psP_mid (n := (⟨true, x.key, 0, 0, ⟨none, 0, []⟩, 0⟩ : Nd)) (m := (⟨true, x.key, (((o ++ [(⟨true, x.key, 0, 0, ⟨none, 0, []⟩, 0⟩ : Nd)]).length : Nat) : Int), v2, ⟨none, 0, []⟩, 0⟩ : Nd)) (by simpa using h.1) h.2.2.2.2.2.1) ?_
           refine aS 2 rfl rfl ?_
           refine aN (aT (At.ret ?_))
           exact At.results (Γr := [_]) (M := [planBox t b a6 (((o ++ [(⟨true, x.key, 0, 0, ⟨none, 0, []⟩, 0⟩ : Nd)]) ++ q1) ++ q2).length c6 a2 c2 bad2, _, M8]) rfl (RVals.cons (RVal.tmp rfl) RVals.nil) (ix 8 rfl) (fun _ h => ⟨h.1, trivial⟩) (k_ (k_ (k_ (d_ (d_ r_))))) (NodeEnd.node (sh_right hxp hmet hroute hgood hsl) hxg hroute ⟨hpl, hps⟩ hq1 hO8 rfl hc1 hlen5 hb9 rfl hs9 hn9)
       ·
        refine AtO.shut rfl rfl rfl rfl (cT (cT cP)) ?_
        refine AtO.shut rfl rfl rfl rfl (cT (cT cP)) ?_
        refine AtO.shut rfl rfl rfl rfl (cT (cT cP)) ?_
        refine AtO.shut rfl rfl rfl rfl (cT (cT cP)) ?_
        refine AtO.shut rfl rfl rfl rfl (cT (cT cP)) ?_
        refine AtO.shut rfl rfl rfl rfl (cT (cT cP)) ?_
        refine oG rfl rfl rfl (q_pickF rfl rfl) rfl (cT (cT cP)) ?_
        refine oQ rfl (q_pickF rfl rfl) rfl (cT (cT cP)) ?_
        refine oQ rfl (q_move rfl) rfl (cT (cT cP)) ?_
        refine oG rfl rfl rfl (q_move rfl) rfl (cT (cT cP)) ?_
        refine oG rfl rfl rfl (q_len Try.underlying37 rfl) rfl (cT (cT cP)) ?_
        refine oG rfl rfl rfl (q_gtr rfl rfl) rfl (cT (cT cP)) ?_
        refine oG rfl rfl rfl (q_move rfl) rfl (cT (cT cP)) ?_
        refine AtO.splitP (d := 181) rfl (fun hH => ?_) (fun hH => ?_)
        ·
         refine oG rfl rfl rfl (q_fieldAddr s33 rfl rfl rfl) rfl (cT (cT cP)) ?_
         refine oG rfl rfl rfl (q_load t3 rfl (Rd.loc (i := 0) rfl rfl)) rfl (cT (cT cP)) ?_
         refine oG rfl rfl rfl (q_move rfl) rfl (cT (cT cP)) ?_
         refine oG rfl rfl rfl (q_index Try.underlying37 t3 rfl (ix 5 rfl) (by simp) rfl rfl (lt_of_get (hi_get hhi hH))) rfl (cT (cT cP)) ?_
         refine oG rfl rfl rfl (q_load t3 rfl (Rd.sl0 (ix 5 rfl) (map_get (hi_get hhi hH)) rfl)) rfl (cT (cT cP)) ?_
         refine AtO.done ?_
         refine aS 3 rfl rfl ?_
         refine aN (aT ?_)
         refine At.if rfl (fun hk2 => ?_) (fun hk2 => ?_)
         ·
          refine aE (aR ?_)
          refine aS 2 rfl rfl ?_
          refine aQ (q_fieldAddr s109 rfl rfl rfl) rfl ?_
          refine At.loudN (l_store t4 rfl rfl (i := 1) rfl rfl rfl rfl) ?_
          rintro _ _ _ ⟨rfl, rfl⟩
          refine aN (aT (aE (aR ?_)))
          refine aS 1 rfl rfl ?_
          refine aN (aT (At.ret (At.thenRet ?_)))
          exact At.results (Γr := [psP o]) (M := [(planBox t b a o.length c a2 c2 true), Mo, _]) rfl (RVals.cons (RVal.tmp rfl) RVals.nil) (ix 1 rfl) (fun _ h => ⟨h.2.2.2.2.2.2.1, trivial⟩) (d_ (k_ (k_ (k_ r_)))) (NodeEnd.no (sh_bad hxp hroute (rb4 (by rw [hl2, decide_eq_true hH]) hk2)) hO)
         ·
          have hgood : routeOk x.p k = true := rgood (show x.ps.l.length = 0 by omega) (show x.stat = 0 by omega) (fun h => by rw [hl1] at h; have := of_decide_eq_true h; show k.least < x.key; omega) (fun h => by rw [hl2] at h; have := of_decide_eq_true h; show x.key < k.most; omega)
          obtain ⟨hpl, hps⟩ := route_pure hgood
          refine At.skip (aT (aE ?_))
          refine At.draw 10 (.q 0 (.q 1 (.q 2 (.q 3 (.q 4 (.q 5 (.q 6 (.q 7 (.o 8 (.o 9 (.e))))))))))) (_ :: _ :: L₀) (k_ (k_ (d_ (d_ r_)))) mixed (by kernel_rfl) rfl ?_
          refine oQ rfl (q_move rfl) rfl (cT cP) ?_
          refine oQ rfl (q_move rfl) rfl (cT cP) ?_
          refine oQ rfl (q_nilCheck rfl) rfl (cT cP) ?_
          refine oQ rfl (q_fieldAddr s109 rfl rfl rfl) rfl (cT cP) ?_
          refine oQ rfl (q_load t22 rfl (Rd.loc (i := 1) rfl rfl)) rfl (cT cP) ?_
          refine oQ rfl (q_fieldAddr s33 rfl rfl rfl) rfl (cT cP) ?_
          refine oQ rfl (q_load t3 rfl (Rd.loc (i := 0) rfl rfl)) rfl (cT cP) ?_
          refine oQ rfl (q_build t33 s33 rfl rfl) rfl (cT cP) ?_
          refine AtO.loud rfl (l_buildSlice Try.underlying22 t33 rfl rfl rfl rfl rfl) rfl (by rintro _ _ _ ⟨_, rfl, rfl, rfl⟩; exact ⟨fun _ h => h, d_ (k_ (k_ (d_ (d_ r_))))⟩) ?_
          rintro _ _ _ ⟨b12, rfl, rfl, rfl⟩
          refine AtO.loudA rfl (l_append rfl Try.underlying22 t33 rfl rfl hO (by simp) (i := 3) rfl rfl (news := [rowN (⟨true, x.key, 0, 0, ⟨none, 0, []⟩, 0⟩ : Nd)]) (by simp [rowN]) (RdS.loc (i := 0) rfl (m := 6) rfl) rfl rfl rfl (by omega) (by unfold maxLen; omega)) rfl (by rintro _ _ _ ⟨_, _, _, rfl, _, rfl, rfl⟩; exact ⟨fun _ h => h, (d_ (k_ (k_ (d_ (d_ r_)))))⟩) ?_
          rintro _ _ _ ⟨a4, c4, M4, rfl, ow4, rfl, rfl⟩
          refine AtO.done ?_
          refine aS 1 rfl rfl ?_
          refine aQ (q_fieldAddr s109 rfl rfl rfl) rfl ?_
          refine At.say 202 (.slice a4 (o ++ [(⟨true, x.key, 0, 0, ⟨none, 0, []⟩, 0⟩ : Nd)]).length c4) rfl (by simp) ?_
          refine At.loudN (l_store t22 rfl rfl (i := 2) rfl rfl rfl rfl) ?_
          rintro _ _ _ ⟨rfl, rfl⟩
          refine aN (aT (aE (aR ?_)))
          have hO4 : Own 33 6 ((o ++ [(⟨true, x.key, 0, 0, ⟨none, 0, []⟩, 0⟩ : Nd)]).map rowN) a4 c4 M4 := by simpa using ow4
          refine At.know (prsP ⟨none, 0, []⟩) (fun _ h => sl_nil _ _ _ (Nat.zero_le _)) ?_
          refine At.know (psP (o ++ [(⟨true, x.key, 0, 0, ⟨none, 0, []⟩, 0⟩ : Nd)])) (fun _ h => psP_snoc (n := (⟨true, x.key, 0, 0, ⟨none, 0, []⟩, 0⟩ : Nd)) h.2.2.2.2.2.2.2.1 h.1) ?_
          refine aS 1 rfl rfl ?_
          refine aF s33 t3 rfl rfl rfl (Rd.loc (i := 1) rfl rfl) rfl rfl ?_
          refine aS 1 rfl rfl ?_
          refine aF s33 t3 rfl rfl rfl (Rd.loc (i := 1) rfl rfl) rfl rfl ?_
          refine At.loud (l_buildSlice Try.underlying37 t3 rfl rfl rfl rfl rfl) rfl ?_
          rintro _ _ _ ⟨b13, rfl, rfl, rfl⟩
          refine At.freeze 0 (φ := intsP ⟨some ⟨b13, 0, none⟩, 1, [x.key]⟩) rfl (fun _ h => sl_of_block h rfl (by simp [rowI]) rfl (show (1 : Nat) ≤ maxLen from by decide)) ?_
          refine At.front 4 rfl ?_
          refine At.front 4 rfl ?_
          refine At.front 4 rfl ?_
          refine At.call en77 rfl (ih (i :: met) x.left (k.lefts x.key) lw ⟨_, _, [x.key]⟩ b (o ++ [(⟨true, x.key, 0, 0, ⟨none, 0, []⟩, 0⟩ : Nd)]) a4 c4 M4 a2 c2 _ (by omega) hO4 hS2 (by simp; omega) hlo rfl) (fun _ h => ⟨h.2.2.2.2.2.1, h.2.2.2.2.2.2.1, h.2.2.2.2.2.2.2.1, h.1, h.2.1, trivial⟩) (List.Perm.refl _) rfl ?_
          rintro _ _ _ ⟨q1, a5, c5, M5, M6, bad1, v1, rfl, rfl, rfl, hO5, hb5, hs5, hn5⟩
          refine aS 1 rfl rfl ?_
          refine aN (aT (aE (aR ?_)))
          rcases hsl : shape t.p.ns f (i :: met) x.left (k.lefts x.key) with _ | sl
          ·
           have hb1 : bad1 = true := hn5 hsl
           subst hb1
           have hO6 : Own 33 6 ((o ++ (⟨true, x.key, 0, 0, ⟨none, 0, []⟩, 0⟩ : Nd) :: q1).map rowN) a5 c5 M5 := by simpa using hO5
           have hno := sh_left hxp hroute hgood hsl
           refine aS 1 rfl rfl ?_
           refine aF s33 t3 rfl rfl rfl (Rd.loc (i := 4) rfl rfl) rfl rfl ?_
           refine aF s33 t3 rfl rfl rfl (Rd.loc (i := 4) rfl rfl) rfl rfl ?_
           refine At.loud (l_buildSlice Try.underlying37 t3 rfl rfl rfl rfl rfl) rfl ?_
           rintro _ _ _ ⟨b14, rfl, rfl, rfl⟩
           refine aS 1 rfl rfl ?_
           refine At.front 1 rfl ?_
           refine At.call en77 rfl (node77b t b x.right _ _ _ _) (fun _ _ => trivial) (List.Perm.refl _) rfl ?_
           rintro _ _ _ ⟨rfl, rfl, rfl⟩
           refine aS 1 rfl rfl ?_
           refine aN (aT (aE ?_))
           refine At.draw 15 (.q 0 (.q 1 (.q 2 (.q 3 (.q 4 (.q 5 (.q 6 (.q 7 (.q 8 (.q 9 (.q 10 (.q 11 (.q 12 (.q 13 (.o 14 (.e)))))))))))))))) (_ :: _ :: _ :: _ :: L₀) (k_ (k_ (d_ (d_ (k_ (k_ r_)))))) mixed (by kernel_rfl) rfl ?_
           refine oQ rfl (q_move rfl) rfl (cT cP) ?_
           refine oQ rfl (q_nilCheck rfl) rfl (cT cP) ?_
           refine oQ rfl (q_fieldAddr s109 rfl rfl rfl) rfl (cT cP) ?_
           refine oQ rfl (q_load t22 rfl (Rd.loc (i := 0) rfl rfl)) rfl (cT cP) ?_
           refine oQ rfl (q_move rfl) rfl (cT cP) ?_
           refine oQ rfl (q_move rfl) rfl (cT cP) ?_
           refine oQ rfl (q_nilCheck rfl) rfl (cT cP) ?_
           refine oQ rfl (q_fieldAddr s109 rfl rfl rfl) rfl (cT cP) ?_
           refine oQ rfl (q_load t22 rfl (Rd.loc (i := 0) rfl rfl)) rfl (cT cP) ?_
           refine oQ rfl (q_move rfl) rfl (cT cP) ?_
           refine oQ rfl (q_move rfl) rfl (cT cP) ?_
           refine oQ rfl (q_move rfl) rfl (cT cP) ?_
           refine oQ rfl (q_indexOwn Try.underlying22 t33 rfl hO6 (by simp) rfl rfl (by simp)) rfl (cT cP) ?_
           refine oQ rfl (q_fieldAddr s33 rfl rfl rfl) rfl (cT cP) ?_
           refine AtO.loudNA rfl (l_storeOwn t3 rfl rfl hO6 (i := 2) rfl (get_mid o q1 _) rfl rfl rfl) (by rintro _ _ _ ⟨_, _, rfl, rfl⟩; exact ⟨fun _ h => h, (k_ (k_ (d_ (d_ (k_ (k_ r_))))))⟩) ?_
           rintro _ _ _ ⟨Mow20, ow20, rfl, rfl⟩
           refine AtO.done ?_
           refine aQ (q_indexOwn Try.underlying22 t33 rfl hO6 (by simp) rfl rfl (by simp)) rfl ?_
           refine aQ (q_fieldAddr s33 rfl rfl rfl) rfl ?_
           refine At.loudN (l_storeOwn t3 rfl rfl (show Own 33 6 ((o ++ (⟨true, x.key, v1, 0, ⟨none, 0, []⟩, 0⟩ : Nd) :: q1).map rowN) a5 c5 _ by rw [← set_mid o q1 (⟨true, x.key, 0, 0, ⟨none, 0, []⟩, 0⟩ : Nd)]; exact ow20) (i := 2) rfl (get_mid o q1 (⟨true, x.key, v1, 0, ⟨none, 0, []⟩, 0⟩ : Nd)) rfl rfl rfl) ?_
           rintro _ _ _ ⟨Mow21, ow21, rfl, rfl⟩
           refine aN (aT (aE (aR ?_)))
           have hO8 : Own 33 6 ((o ++ (⟨true, x.key, v1, 0, ⟨none, 0, []⟩, 0⟩ : Nd) :: q1).map rowN) a5 c5 Mow21 := by rw [← set_mid o q1 (⟨true, x.key, v1, 0, ⟨none, 0, []⟩, 0⟩ : Nd)]; exact ow21
           refine At.know (psP (o ++ (⟨true, x.key, v1, 0, ⟨none, 0, []⟩, 0⟩ : Nd) :: q1)) (fun _ h => psP_mid (n := (⟨true, x.key, 0, 0, ⟨none, 0, []⟩, 0⟩ : Nd)) (m := (⟨true, x.key, v1, 0, ⟨none, 0, []⟩, 0⟩ : Nd)) (by simpa using h.1) h.2.2.2.1) ?_
           refine aS 2 rfl rfl ?_
           refine aN (aT (At.ret ?_))
           exact At.results (Γr := [_]) (M := [planBox t b a5 ((o ++ [(⟨true, x.key, 0, 0, ⟨none, 0, []⟩, 0⟩ : Nd)]) ++ q1).length c5 a2 c2 true, _, _]) rfl (RVals.cons (RVal.tmp rfl) RVals.nil) (ix 6 rfl) (fun _ h => ⟨h.1, trivial⟩) (k_ (d_ (k_ (k_ (d_ (d_ r_)))))) (NodeEnd.left (q := (⟨true, x.key, v1, 0, ⟨none, 0, []⟩, 0⟩ : Nd) :: q1) hno hO8 (by simp) (by have := hcs.1; simp at hb5 ⊢; omega))
          ·
           obtain ⟨rfl, rfl, hq1, hS5, hlen5⟩ := hs5 sl hsl
           have hcm := count_more t.ns.l.length sl.places (i :: met)
           have hc1 := hcs.1
           refine aS 1 rfl rfl ?_
           refine aF s33 t3 rfl rfl rfl (Rd.loc (i := 4) rfl rfl) rfl rfl ?_
           refine aF s33 t3 rfl rfl rfl (Rd.loc (i := 4) rfl rfl) rfl rfl ?_
           refine At.loud (l_buildSlice Try.underlying37 t3 rfl rfl rfl rfl rfl) rfl ?_
           rintro _ _ _ ⟨b15, rfl, rfl, rfl⟩
           refine aS 1 rfl rfl ?_
           refine At.freeze 0 (φ := intsP ⟨some ⟨b15, 0, none⟩, 1, [x.key]⟩) rfl (fun _ h => sl_of_block h rfl (by simp [rowI]) rfl (show (1 : Nat) ≤ maxLen from by decide)) ?_
           refine At.front 2 rfl ?_
           refine At.front 2 rfl ?_
           refine At.front 2 rfl ?_
           refine At.call en77 rfl (ih (sl.places ++ i :: met) x.right (k.rights x.key) ⟨_, _, [x.key]⟩ hw b ((o ++ [(⟨true, x.key, 0, 0, ⟨none, 0, []⟩, 0⟩ : Nd)]) ++ q1) a5 c5 M5 a2 c2 M6 (by omega) hO5 hS5 (by have h1 := hlen5; simp only [List.length_append, List.length_singleton] at h1 ⊢; omega) rfl hhi) (fun _ h => ⟨h.2.2.2.2.2.2.2.1, h.2.2.2.2.2.2.2.2.1, h.1, h.2.2.2.2.2.2.2.2.2.2.1, h.2.1, trivial⟩) (List.Perm.refl _) rfl ?_
           rintro _ _ _ ⟨q2, a6, c6, M7, M8, bad2, v2, rfl, rfl, rfl, hO9, hb9, hs9, hn9⟩
           refine aS 1 rfl rfl ?_
           refine aN (aT (aE ?_))
           have hO6 : Own 33 6 ((o ++ (⟨true, x.key, 0, 0, ⟨none, 0, []⟩, 0⟩ : Nd) :: (q1 ++ q2)).map rowN) a6 c6 M7 := by simpa using hO9
           refine At.draw 15 (.q 0 (.q 1 (.q 2 (.q 3 (.q 4 (.q 5 (.q 6 (.q 7 (.q 8 (.q 9 (.q 10 (.q 11 (.q 12 (.q 13 (.o 14 (.e)))))))))))))))) (_ :: _ :: _ :: L₀) (k_ (d_ (d_ (k_ (k_ r_))))) mixed (by kernel_rfl) rfl ?_
           refine oQ rfl (q_move rfl) rfl (cT cP) ?_
           refine oQ rfl (q_nilCheck rfl) rfl (cT cP) ?_
           refine oQ rfl (q_fieldAddr s109 rfl rfl rfl) rfl (cT cP) ?_
           refine oQ rfl (q_load t22 rfl (Rd.loc (i := 0) rfl rfl)) rfl (cT cP) ?_
           refine oQ rfl (q_move rfl) rfl (cT cP) ?_
           refine oQ rfl (q_move rfl) rfl (cT cP) ?_
           refine oQ rfl (q_nilCheck rfl) rfl (cT cP) ?_
           refine oQ rfl (q_fieldAddr s109 rfl rfl rfl) rfl (cT cP) ?_
           refine oQ rfl (q_load t22 rfl (Rd.loc (i := 0) rfl rfl)) rfl (cT cP) ?_
           refine oQ rfl (q_move rfl) rfl (cT cP) ?_
           refine oQ rfl (q_move rfl) rfl (cT cP) ?_
           refine oQ rfl (q_move rfl) rfl (cT cP) ?_
           refine oQ rfl (q_indexOwn Try.underlying22 t33 rfl hO6 (by simp) rfl rfl (by simp)) rfl (cT cP) ?_
           refine oQ rfl (q_fieldAddr s33 rfl rfl rfl) rfl (cT cP) ?_
           refine AtO.loudNA rfl (l_storeOwn t3 rfl rfl hO6 (i := 1) rfl (get_mid o (q1 ++ q2) _) rfl rfl rfl) (by rintro _ _ _ ⟨_, _, rfl, rfl⟩; exact ⟨fun _ h => h, (k_ (d_ (d_ (k_ (k_ r_)))))⟩) ?_
           rintro _ _ _ ⟨Mow22, ow22, rfl, rfl⟩
           refine AtO.done ?_
           refine aQ (q_indexOwn Try.underlying22 t33 rfl hO6 (by simp) rfl rfl (by simp)) rfl ?_
           refine aQ (q_fieldAddr s33 rfl rfl rfl) rfl ?_
           refine At.loudN (l_storeOwn t3 rfl rfl (show Own 33 6 ((o ++ (⟨true, x.key, (((o ++ [(⟨true, x.key, 0, 0, ⟨none, 0, []⟩, 0⟩ : Nd)]).length : Nat) : Int), 0, ⟨none, 0, []⟩, 0⟩ : Nd) :: (q1 ++ q2)).map rowN) a6 c6 _ by rw [← set_mid o (q1 ++ q2) (⟨true, x.key, 0, 0, ⟨none, 0, []⟩, 0⟩ : Nd)]; exact ow22) (i := 1) rfl (get_mid o (q1 ++ q2) (⟨true, x.key, (((o ++ [(⟨true, x.key, 0, 0, ⟨none, 0, []⟩, 0⟩ : Nd)]).length : Nat) : Int), 0, ⟨none, 0, []⟩, 0⟩ : Nd)) rfl rfl rfl) ?_
           rintro _ _ _ ⟨Mow23, ow23, rfl, rfl⟩
           refine aN (aT (aE (aR ?_)))
           have hO8 : Own 33 6 ((o ++ (⟨true, x.key, (((o ++ [(⟨true, x.key, 0, 0, ⟨none, 0, []⟩, 0⟩ : Nd)]).length : Nat) : Int), v2, ⟨none, 0, []⟩, 0⟩ : Nd) :: (q1 ++ q2)).map rowN) a6 c6 Mow23 := by rw [← set_mid o (q1 ++ q2) (⟨true, x.key, (((o ++ [(⟨true, x.key, 0, 0, ⟨none, 0, []⟩, 0⟩ : Nd)]).length : Nat) : Int), 0, ⟨none, 0, []⟩, 0⟩ : Nd)]; exact ow23
           refine At.know (psP (o ++ (⟨true, x.key, (((o ++ [(⟨true, x.key, 0, 0, ⟨none, 0, []⟩, 0⟩ : Nd)]).length : Nat) : Int), v2, ⟨none, 0, []⟩, 0⟩ : Nd) :: (q1 ++ q2))) (fun _ h => psP_mid (n := (⟨true, x.key, 0, 0, ⟨none, 0, []⟩, 0⟩ : Nd)) (m := (⟨true, x.key, (((o ++ [(⟨true, x.key, 0, 0, ⟨none, 0, []⟩, 0⟩ : Nd)]).length : Nat) : Int), v2, ⟨none, 0, []⟩, 0⟩ : Nd)) (by simpa using h.1) h.2.2.2.2.2.1) ?_
           refine aS 2 rfl rfl ?_
           refine aN (aT (At.ret ?_))
           exact At.results (Γr := [_]) (M := [planBox t b a6 (((o ++ [(⟨true, x.key, 0, 0, ⟨none, 0, []⟩, 0⟩ : Nd)]) ++ q1) ++ q2).length c6 a2 c2 bad2, _, M8]) rfl (RVals.cons (RVal.tmp rfl) RVals.nil) (ix 8 rfl) (fun _ h => ⟨h.1, trivial⟩) (k_ (k_ (k_ (d_ (d_ r_))))) (NodeEnd.node (sh_right hxp hmet hroute hgood hsl) hxg hroute ⟨hpl, hps⟩ hq1 hO8 rfl hc1 hlen5 hb9 rfl hs9 hn9)
        ·
         have hgood : routeOk x.p k = true := rgood (show x.ps.l.length = 0 by omega) (show x.stat = 0 by omega) (fun h => by rw [hl1] at h; have := of_decide_eq_true h; show k.least < x.key; omega) (fun h => by rw [hl2] at h; have := of_decide_eq_true h; show x.key < k.most; omega)
         obtain ⟨hpl, hps⟩ := route_pure hgood
         refine AtO.shut rfl rfl rfl rfl (cT (cT cP)) ?_
         refine AtO.shut rfl rfl rfl rfl (cT (cT cP)) ?_
         refine AtO.shut rfl rfl rfl rfl (cT (cT cP)) ?_
         refine AtO.shut rfl rfl rfl rfl (cT (cT cP)) ?_
         refine AtO.shut rfl rfl rfl rfl (cT (cT cP)) ?_
         refine AtO.done ?_
         refine aS 3 rfl rfl ?_
         refine aN (aT ?_)
         refine At.condF rfl ?_
         refine At.skip (aT (aE ?_))
         refine At.draw 10 (.q 0 (.q 1 (.q 2 (.q 3 (.q 4 (.q 5 (.q 6 (.q 7 (.o 8 (.o 9 (.e))))))))))) (_ :: _ :: L₀) (k_ (k_ (d_ (d_ r_)))) mixed (by kernel_rfl) rfl ?_
         refine oQ rfl (q_move rfl) rfl (cT cP) ?_
         refine oQ rfl (q_move rfl) rfl (cT cP) ?_
         refine oQ rfl (q_nilCheck rfl) rfl (cT cP) ?_
         refine oQ rfl (q_fieldAddr s109 rfl rfl rfl) rfl (cT cP) ?_
         refine oQ rfl (q_load t22 rfl (Rd.loc (i := 1) rfl rfl)) rfl (cT cP) ?_
         refine oQ rfl (q_fieldAddr s33 rfl rfl rfl) rfl (cT cP) ?_
         refine oQ rfl (q_load t3 rfl (Rd.loc (i := 0) rfl rfl)) rfl (cT cP) ?_
         refine oQ rfl (q_build t33 s33 rfl rfl) rfl (cT cP) ?_
         refine AtO.loud rfl (l_buildSlice Try.underlying22 t33 rfl rfl rfl rfl rfl) rfl (by rintro _ _ _ ⟨_, rfl, rfl, rfl⟩; exact ⟨fun _ h => h, d_ (k_ (k_ (d_ (d_ r_))))⟩) ?_
         rintro _ _ _ ⟨b16, rfl, rfl, rfl⟩
         refine AtO.loudA rfl (l_append rfl Try.underlying22 t33 rfl rfl hO (by simp) (i := 3) rfl rfl (news := [rowN (⟨true, x.key, 0, 0, ⟨none, 0, []⟩, 0⟩ : Nd)]) (by simp [rowN]) (RdS.loc (i := 0) rfl (m := 6) rfl) rfl rfl rfl (by omega) (by unfold maxLen; omega)) rfl (by rintro _ _ _ ⟨_, _, _, rfl, _, rfl, rfl⟩; exact ⟨fun _ h => h, (d_ (k_ (k_ (d_ (d_ r_)))))⟩) ?_
         rintro _ _ _ ⟨a4, c4, M4, rfl, ow4, rfl, rfl⟩
         refine AtO.done ?_
         refine aS 1 rfl rfl ?_
         refine aQ (q_fieldAddr s109 rfl rfl rfl) rfl ?_
         refine At.say 202 (.slice a4 (o ++ [(⟨true, x.key, 0, 0, ⟨none, 0, []⟩, 0⟩ : Nd)]).length c4) rfl (by simp) ?_
         refine At.loudN (l_store t22 rfl rfl (i := 2) rfl rfl rfl rfl) ?_
         rintro _ _ _ ⟨rfl, rfl⟩
         refine aN (aT (aE (aR ?_)))
         have hO4 : Own 33 6 ((o ++ [(⟨true, x.key, 0, 0, ⟨none, 0, []⟩, 0⟩ : Nd)]).map rowN) a4 c4 M4 := by simpa using ow4
         refine At.know (prsP ⟨none, 0, []⟩) (fun _ h => sl_nil _ _ _ (Nat.zero_le _)) ?_
         refine At.know (psP (o ++ [(⟨true, x.key, 0, 0, ⟨none, 0, []⟩, 0⟩ : Nd)])) (fun _ h => psP_snoc (n := (⟨true, x.key, 0, 0, ⟨none, 0, []⟩, 0⟩ : Nd)) h.2.2.2.2.2.2.2.1 h.1) ?_
         refine aS 1 rfl rfl ?_
         refine aF s33 t3 rfl rfl rfl (Rd.loc (i := 1) rfl rfl) rfl rfl ?_
         refine aS 1 rfl rfl ?_
         refine aF s33 t3 rfl rfl rfl (Rd.loc (i := 1) rfl rfl) rfl rfl ?_
         refine At.loud (l_buildSlice Try.underlying37 t3 rfl rfl rfl rfl rfl) rfl ?_
         rintro _ _ _ ⟨b17, rfl, rfl, rfl⟩
         refine At.freeze 0 (φ := intsP ⟨some ⟨b17, 0, none⟩, 1, [x.key]⟩) rfl (fun _ h => sl_of_block h rfl (by simp [rowI]) rfl (show (1 : Nat) ≤ maxLen from by decide)) ?_
         refine At.front 4 rfl ?_
         refine At.front 4 rfl ?_
         refine At.front 4 rfl ?_
         refine At.call en77 rfl (ih (i :: met) x.left (k.lefts x.key) lw ⟨_, _, [x.key]⟩ b (o ++ [(⟨true, x.key, 0, 0, ⟨none, 0, []⟩, 0⟩ : Nd)]) a4 c4 M4 a2 c2 _ (by omega) hO4 hS2 (by simp; omega) hlo rfl) (fun _ h => ⟨h.2.2.2.2.2.1, h.2.2.2.2.2.2.1, h.2.2.2.2.2.2.2.1, h.1, h.2.1, trivial⟩) (List.Perm.refl _) rfl ?_
         rintro _ _ _ ⟨q1, a5, c5, M5, M6, bad1, v1, rfl, rfl, rfl, hO5, hb5, hs5, hn5⟩
         refine aS 1 rfl rfl ?_
         refine aN (aT (aE (aR ?_)))
         rcases hsl : shape t.p.ns f (i :: met) x.left (k.lefts x.key) with _ | sl
         ·
          have hb1 : bad1 = true := hn5 hsl
          subst hb1
          have hO6 : Own 33 6 ((o ++ (⟨true, x.key, 0, 0, ⟨none, 0, []⟩, 0⟩ : Nd) :: q1).map rowN) a5 c5 M5 := by simpa using hO5
          have hno := sh_left hxp hroute hgood hsl
          refine aS 1 rfl rfl ?_
          refine aF s33 t3 rfl rfl rfl (Rd.loc (i := 4) rfl rfl) rfl rfl ?_
          refine aF s33 t3 rfl rfl rfl (Rd.loc (i := 4) rfl rfl) rfl rfl ?_
          refine At.loud (l_buildSlice Try.underlying37 t3 rfl rfl rfl rfl rfl) rfl ?_
          rintro _ _ _ ⟨b18, rfl, rfl, rfl⟩
          refine aS 1 rfl rfl ?_
          refine At.front 1 rfl ?_
          refine At.call en77 rfl (node77b t b x.right _ _ _ _) (fun _ _ => trivial) (List.Perm.refl _) rfl ?_
          rintro _ _ _ ⟨rfl, rfl, rfl⟩
          refine aS 1 rfl rfl ?_
          refine aN (aT (aE ?_))
          refine At.draw 15 (.q 0 (.q 1 (.q 2 (.q 3 (.q 4 (.q 5 (.q 6 (.q 7 (.q 8 (.q 9 (.q 10 (.q 11 (.q 12 (.q 13 (.o 14 (.e)))))))))))))))) (_ :: _ :: _ :: _ :: L₀) (k_ (k_ (d_ (d_ (k_ (k_ r_)))))) mixed (by kernel_rfl) rfl ?_
          refine oQ rfl (q_move rfl) rfl (cT cP) ?_
          refine oQ rfl (q_nilCheck rfl) rfl (cT cP) ?_
          refine oQ rfl (q_fieldAddr s109 rfl rfl rfl) rfl (cT cP) ?_
          refine oQ rfl (q_load t22 rfl (Rd.loc (i := 0) rfl rfl)) rfl (cT cP) ?_
          refine oQ rfl (q_move rfl) rfl (cT cP) ?_
          refine oQ rfl (q_move rfl) rfl (cT cP) ?_
          refine oQ rfl (q_nilCheck rfl) rfl (cT cP) ?_
          refine oQ rfl (q_fieldAddr s109 rfl rfl rfl) rfl (cT cP) ?_
          refine oQ rfl (q_load t22 rfl (Rd.loc (i := 0) rfl rfl)) rfl (cT cP) ?_
          refine oQ rfl (q_move rfl) rfl (cT cP) ?_
          refine oQ rfl (q_move rfl) rfl (cT cP) ?_
          refine oQ rfl (q_move rfl) rfl (cT cP) ?_
          refine oQ rfl (q_indexOwn Try.underlying22 t33 rfl hO6 (by simp) rfl rfl (by simp)) rfl (cT cP) ?_
          refine oQ rfl (q_fieldAddr s33 rfl rfl rfl) rfl (cT cP) ?_
          refine AtO.loudNA rfl (l_storeOwn t3 rfl rfl hO6 (i := 2) rfl (get_mid o q1 _) rfl rfl rfl) (by rintro _ _ _ ⟨_, _, rfl, rfl⟩; exact ⟨fun _ h => h, (k_ (k_ (d_ (d_ (k_ (k_ r_))))))⟩) ?_
          rintro _ _ _ ⟨Mow24, ow24, rfl, rfl⟩
          refine AtO.done ?_
          refine aQ (q_indexOwn Try.underlying22 t33 rfl hO6 (by simp) rfl rfl (by simp)) rfl ?_
          refine aQ (q_fieldAddr s33 rfl rfl rfl) rfl ?_
          refine At.loudN (l_storeOwn t3 rfl rfl (show Own 33 6 ((o ++ (⟨true, x.key, v1, 0, ⟨none, 0, []⟩, 0⟩ : Nd) :: q1).map rowN) a5 c5 _ by rw [← set_mid o q1 (⟨true, x.key, 0, 0, ⟨none, 0, []⟩, 0⟩ : Nd)]; exact ow24) (i := 2) rfl (get_mid o q1 (⟨true, x.key, v1, 0, ⟨none, 0, []⟩, 0⟩ : Nd)) rfl rfl rfl) ?_
          rintro _ _ _ ⟨Mow25, ow25, rfl, rfl⟩
          refine aN (aT (aE (aR ?_)))
          have hO8 : Own 33 6 ((o ++ (⟨true, x.key, v1, 0, ⟨none, 0, []⟩, 0⟩ : Nd) :: q1).map rowN) a5 c5 Mow25 := by rw [← set_mid o q1 (⟨true, x.key, v1, 0, ⟨none, 0, []⟩, 0⟩ : Nd)]; exact ow25
          refine At.know (psP (o ++ (⟨true, x.key, v1, 0, ⟨none, 0, []⟩, 0⟩ : Nd) :: q1)) (fun _ h => psP_mid (n := (⟨true, x.key, 0, 0, ⟨none, 0, []⟩, 0⟩ : Nd)) (m := (⟨true, x.key, v1, 0, ⟨none, 0, []⟩, 0⟩ : Nd)) (by simpa using h.1) h.2.2.2.1) ?_
          refine aS 2 rfl rfl ?_
          refine aN (aT (At.ret ?_))
          exact At.results (Γr := [_]) (M := [planBox t b a5 ((o ++ [(⟨true, x.key, 0, 0, ⟨none, 0, []⟩, 0⟩ : Nd)]) ++ q1).length c5 a2 c2 true, _, _]) rfl (RVals.cons (RVal.tmp rfl) RVals.nil) (ix 6 rfl) (fun _ h => ⟨h.1, trivial⟩) (k_ (d_ (k_ (k_ (d_ (d_ r_)))))) (NodeEnd.left (q := (⟨true, x.key, v1, 0, ⟨none, 0, []⟩, 0⟩ : Nd) :: q1) hno hO8 (by simp) (by have := hcs.1; simp at hb5 ⊢; omega))
         ·
          obtain ⟨rfl, rfl, hq1, hS5, hlen5⟩ := hs5 sl hsl
          have hcm := count_more t.ns.l.length sl.places (i :: met)
          have hc1 := hcs.1
          refine aS 1 rfl rfl ?_
          refine aF s33 t3 rfl rfl rfl (Rd.loc (i := 4) rfl rfl) rfl rfl ?_
          refine aF s33 t3 rfl rfl rfl (Rd.loc (i := 4) rfl rfl) rfl rfl ?_
          refine At.loud (l_buildSlice Try.underlying37 t3 rfl rfl rfl rfl rfl) rfl ?_
          rintro _ _ _ ⟨b19, rfl, rfl, rfl⟩
          refine aS 1 rfl rfl ?_
          refine At.freeze 0 (φ := intsP ⟨some ⟨b19, 0, none⟩, 1, [x.key]⟩) rfl (fun _ h => sl_of_block h rfl (by simp [rowI]) rfl (show (1 : Nat) ≤ maxLen from by decide)) ?_
          refine At.front 2 rfl ?_
          refine At.front 2 rfl ?_
          refine At.front 2 rfl ?_
          refine At.call en77 rfl (ih (sl.places ++ i :: met) x.right (k.rights x.key) ⟨_, _, [x.key]⟩ hw b ((o ++ [(⟨true, x.key, 0, 0, ⟨none, 0, []⟩, 0⟩ : Nd)]) ++ q1) a5 c5 M5 a2 c2 M6 (by omega) hO5 hS5 (by have h1 := hlen5; simp only [List.length_append, List.length_singleton] at h1 ⊢; omega) rfl hhi) (fun _ h => ⟨h.2.2.2.2.2.2.2.1, h.2.2.2.2.2.2.2.2.1, h.1, h.2.2.2.2.2.2.2.2.2.2.1, h.2.1, trivial⟩) (List.Perm.refl _) rfl ?_
          rintro _ _ _ ⟨q2, a6, c6, M7, M8, bad2, v2, rfl, rfl, rfl, hO9, hb9, hs9, hn9⟩
          refine aS 1 rfl rfl ?_
          refine aN (aT (aE ?_))
          have hO6 : Own 33 6 ((o ++ (⟨true, x.key, 0, 0, ⟨none, 0, []⟩, 0⟩ : Nd) :: (q1 ++ q2)).map rowN) a6 c6 M7 := by simpa using hO9
          refine At.draw 15 (.q 0 (.q 1 (.q 2 (.q 3 (.q 4 (.q 5 (.q 6 (.q 7 (.q 8 (.q 9 (.q 10 (.q 11 (.q 12 (.q 13 (.o 14 (.e)))))))))))))))) (_ :: _ :: _ :: L₀) (k_ (d_ (d_ (k_ (k_ r_))))) mixed (by kernel_rfl) rfl ?_
          refine oQ rfl (q_move rfl) rfl (cT cP) ?_
          refine oQ rfl (q_nilCheck rfl) rfl (cT cP) ?_
          refine oQ rfl (q_fieldAddr s109 rfl rfl rfl) rfl (cT cP) ?_
          refine oQ rfl (q_load t22 rfl (Rd.loc (i := 0) rfl rfl)) rfl (cT cP) ?_
          refine oQ rfl (q_move rfl) rfl (cT cP) ?_
          refine oQ rfl (q_move rfl) rfl (cT cP) ?_
          refine oQ rfl (q_nilCheck rfl) rfl (cT cP) ?_
          refine oQ rfl (q_fieldAddr s109 rfl rfl rfl) rfl (cT cP) ?_
          refine oQ rfl (q_load t22 rfl (Rd.loc (i := 0) rfl rfl)) rfl (cT cP) ?_
          refine oQ rfl (q_move rfl) rfl (cT cP) ?_
          refine oQ rfl (q_move rfl) rfl (cT cP) ?_
          refine oQ rfl (q_move rfl) rfl (cT cP) ?_
          refine oQ rfl (q_indexOwn Try.underlying22 t33 rfl hO6 (by simp) rfl rfl (by simp)) rfl (cT cP) ?_
          refine oQ rfl (q_fieldAddr s33 rfl rfl rfl) rfl (cT cP) ?_
          refine AtO.loudNA rfl (l_storeOwn t3 rfl rfl hO6 (i := 1) rfl (get_mid o (q1 ++ q2) _) rfl rfl rfl) (by rintro _ _ _ ⟨_, _, rfl, rfl⟩; exact ⟨fun _ h => h, (k_ (d_ (d_ (k_ (k_ r_)))))⟩) ?_
          rintro _ _ _ ⟨Mow26, ow26, rfl, rfl⟩
          refine AtO.done ?_
          refine aQ (q_indexOwn Try.underlying22 t33 rfl hO6 (by simp) rfl rfl (by simp)) rfl ?_
          refine aQ (q_fieldAddr s33 rfl rfl rfl) rfl ?_
          refine At.loudN (l_storeOwn t3 rfl rfl (show Own 33 6 ((o ++ (⟨true, x.key, (((o ++ [(⟨true, x.key, 0, 0, ⟨none, 0, []⟩, 0⟩ : Nd)]).length : Nat) : Int), 0, ⟨none, 0, []⟩, 0⟩ : Nd) :: (q1 ++ q2)).map rowN) a6 c6 _ by rw [← set_mid o (q1 ++ q2) (⟨true, x.key, 0, 0, ⟨none, 0, []⟩, 0⟩ : Nd)]; exact ow26) (i := 1) rfl (get_mid o (q1 ++ q2) (⟨true, x.key, (((o ++ [(⟨true, x.key, 0, 0, ⟨none, 0, []⟩, 0⟩ : Nd)]).length : Nat) : Int), 0, ⟨none, 0, []⟩, 0⟩ : Nd)) rfl rfl rfl) ?_
          rintro _ _ _ ⟨Mow27, ow27, rfl, rfl⟩
          refine aN (aT (aE (aR ?_)))
          have hO8 : Own 33 6 ((o ++ (⟨true, x.key, (((o ++ [(⟨true, x.key, 0, 0, ⟨none, 0, []⟩, 0⟩ : Nd)]).length : Nat) : Int), v2, ⟨none, 0, []⟩, 0⟩ : Nd) :: (q1 ++ q2)).map rowN) a6 c6 Mow27 := by rw [← set_mid o (q1 ++ q2) (⟨true, x.key, (((o ++ [(⟨true, x.key, 0, 0, ⟨none, 0, []⟩, 0⟩ : Nd)]).length : Nat) : Int), 0, ⟨none, 0, []⟩, 0⟩ : Nd)]; exact ow27
          refine At.know (psP (o ++ (⟨true, x.key, (((o ++ [(⟨true, x.key, 0, 0, ⟨none, 0, []⟩, 0⟩ : Nd)]).length : Nat) : Int), v2, ⟨none, 0, []⟩, 0⟩ : Nd) :: (q1 ++ q2))) (fun _ h => psP_mid (n := (⟨true, x.key, 0, 0, ⟨none, 0, []⟩, 0⟩ : Nd)) (m := (⟨true, x.key, (((o ++ [(⟨true, x.key, 0, 0, ⟨none, 0, []⟩, 0⟩ : Nd)]).length : Nat) : Int), v2, ⟨none, 0, []⟩, 0⟩ : Nd)) (by simpa using h.1) h.2.2.2.2.2.1) ?_
          refine aS 2 rfl rfl ?_
          refine aN (aT (At.ret ?_))
          exact At.results (Γr := [_]) (M := [planBox t b a6 (((o ++ [(⟨true, x.key, 0, 0, ⟨none, 0, []⟩, 0⟩ : Nd)]) ++ q1) ++ q2).length c6 a2 c2 bad2, _, M8]) rfl (RVals.cons (RVal.tmp rfl) RVals.nil) (ix 8 rfl) (fun _ h => ⟨h.1, trivial⟩) (k_ (k_ (k_ (d_ (d_ r_))))) (NodeEnd.node (sh_right hxp hmet hroute hgood hsl) hxg hroute ⟨hpl, hps⟩ hq1 hO8 rfl hc1 hlen5 hb9 rfl hs9 hn9)
end Go.Proofs.Ytmkodknmknfdkaa
set_option linter.unusedVariables false
set_option linter.unusedSimpArgs false
namespace Go.Proofs.Ytmkodknmknfdkaa
open E
theorem may_of_size {t : PT} {s : Sh} (hl : t.ns.length ≤ 2000) (hs : shape t.ns (t.ns.length + 1) [] t.root Kb.all = some s) (hz : s.size = t.ns.length) : mayT t = some s := by
 unfold mayT
 rw [if_neg (by omega), hs]
 simp only []
 rw [if_pos]
 rw [List.all_eq_true]
 intro i hi
 have h6 := shape_places hs
 by_cases hi' : i ∈ s.places
 ·simpa using hi'
 ·have := nodup_len (N := t.ns.length) (l := i :: s.places) (List.nodup_cons.2 ⟨hi', h6.1⟩) (fun j hj => by
   rcases List.mem_cons.1 hj with h | h
   ·subst h; exact List.mem_range.1 hi
   ·exact (h6.2 j h).1)
  rw [List.length_cons, Sh.size_places, hz] at this
  omega
theorem plan_bad {t : PT} {P : Sh → Prop} {bad : Bool} (h : ∀ s, shape t.ns (t.ns.length + 1) [] t.root Kb.all = some s → bad = false ∧ P s) (hb : bad = true) : (mayT t).isSome = false := may_none (by
 cases hs : shape t.ns (t.ns.length + 1) [] t.root Kb.all with
 | none => rfl
 | some s => have := (h s hs).1; rw [hb] at this; cases this)
theorem plan_some {t : PT} {bad : Bool} (h : shape t.ns (t.ns.length + 1) [] t.root Kb.all = none → bad = true) (hb : bad = false) : ∃ s, shape t.ns (t.ns.length + 1) [] t.root Kb.all = some s := by
 cases hs : shape t.ns (t.ns.length + 1) [] t.root Kb.all with
 | none => have := h hs; rw [hb] at this; cases this
 | some s => exact ⟨s, rfl⟩
theorem plan_len {t : PT} {s : Sh} {q : List Nod} (h : shape t.ns (t.ns.length + 1) [] t.root Kb.all = some s) (hq : q = s.lay t.ns 0) (hl : q.length ≠ t.ns.length) : (mayT t).isSome = false := by
 cases hm : mayT t with
 | none => rfl
 | some s' =>
  have h1 := (may_hangs hm).2.1
  rw [h] at h1
  cases h1
  have h2 := (good_of hm).size
  rw [hq, Sh.lay_length] at hl
  exact absurd h2 hl
theorem plan_ok {t : PT} {s : Sh} {q : List Nod} (hN : t.ns.length ≤ 2000) (h : shape t.ns (t.ns.length + 1) [] t.root Kb.all = some s) (hq : q = s.lay t.ns 0) (hl : q.length = t.ns.length) : mayT t = some s :=
 may_of_size hN h (by rw [hq, Sh.lay_length] at hl; exact hl)
def leafT (t : PT) (a : Int) : Bool := (mayT t).isSome && (decide (0 ≤ a) && (match t.ns[a.toNat]? with | none => false | some n => !n.route))
theorem leaf_no {t : PT} {a : Int} (h : (mayT t).isSome = false) : leafT t a = false := by simp [leafT, none_of h]
theorem leaf_neg {t : PT} {a : Int} (h : a < 0) : leafT t a = false := by
 have : ¬ (0 ≤ a) := by omega
 simp [leafT, this]
theorem leaf_out {t : PT} {i : Nat} (h : t.ns.length ≤ i) : leafT t (i : Int) = false := by
 have : t.ns[i]? = none := List.getElem?_eq_none h
 simp [leafT, this]
theorem leaf_at {t : PT} {i : Nat} {n : Nod} (h : (mayT t).isSome = true) (hn : t.ns[i]? = some n) : leafT t (i : Int) = !n.route := by
 simp [leafT, h, hn]
theorem leaf_yes {t : PT} {a : Int} (h : leafT t a = true) : ∃ (s : Sh) (i : Nat) (n : Nod), mayT t = some s ∧ a = (i : Int) ∧ t.ns[i]? = some n ∧ n.route = false := by
 simp only [leafT, Bool.and_eq_true, decide_eq_true_eq] at h
 obtain ⟨h1, h2, h3⟩ := h
 obtain ⟨s, hs⟩ := Option.isSome_iff_exists.1 h1
 cases hn : t.ns[a.toNat]? with
 | none => rw [hn] at h3; cases h3
 | some n => rw [hn] at h3; exact ⟨s, a.toNat, n, hs, by omega, hn, by simpa using h3⟩
theorem row_set (l : List Nd) (i : Nat) (m : Nd) : (l.set i m).map rowN = (l.map rowN).set i (rowN m) := List.map_set
theorem set_val (r : Int) (a : Option Addr) (c : Nat) (l : List Nd) (i : Nat) (m : Nd) : Tr.val ⟨r, ⟨a, c, l.set i m⟩⟩ = .agg #[.int .i64 r, .slice a l.length c] := by simp [Tr.val, Sl.val]
theorem small_p {l l' : List Nd} (h : l'.map Nd.p = l.map Nd.p) (hs : smallP l) : smallP l' := fun n hn => by
 have h1 : n.p ∈ l.map Nd.p := h ▸ List.mem_map.2 ⟨n, hn, rfl⟩
 obtain ⟨m, hm, e⟩ := List.mem_map.1 h1
 have h2 := hs m hm
 have h3 : m.p.l = n.p.l := by rw [e]
 have h4 : m.ps.l = n.ps.l := h3
 rw [← h4]
 exact h2
theorem small_set {l : List Nd} {i : Nat} {m : Nd} (hs : smallP l) (hm : m.ps.l.length ≤ 1000000) : smallP (l.set i m) := fun n hn => by
 rcases List.mem_or_eq_of_mem_set hn with h | h
 ·exact hs n h
 ·rw [h]; exact hm
def PathEnd (t : Tr) (key : Int) (v : Value) (Γ : List SProp) (M : E.Loc) : Prop :=
 ∃ (us : Sl Int) (rs : Sl Bool), v = .tuple #[.int .i64 ((findD t.p key).leaf : Int), us.val, rs.val] ∧ Γ = [intsP us, boolsP rs] ∧ M = [] ∧ us.l = toI (findD t.p key).ups ∧ rs.l = (findD t.p key).rights
def SetEndF (t : Tr) (a : Int) (l : Sl Pr) (stat : Int) (v : Value) (Γ : List SProp) (M : E.Loc) : Prop :=
 ∃ u : Tr, v = .tuple #[u.val, .bool (setT t.p a l.l stat).isSome] ∧ Γ = [ndsP u.ns, psP u.ns.l] ∧ M = [] ∧ u.p = setD t.p a l.l stat
/-- The tree that awake knows. -/
def awT : PT := ⟨2, [⟨false, 0, 0, 0, [⟨1, 0⟩], 0⟩, ⟨false, 0, 0, 0, [⟨5, 0⟩], 0⟩, ⟨true, 3, 0, 1, [], 0⟩]⟩
def Fits (ns : List Nod) : Sh → Int → Kb → Prop
 | .leaf i, a, k => a = (i : Int) ∧ ∃ n, ns[i]? = some n ∧ n.route = false ∧ leafOk n k = true
 | .node i l r, a, k => a = (i : Int) ∧ ∃ n, ns[i]? = some n ∧ n.route = true ∧ routeOk n k = true ∧ Fits ns l n.left (k.lefts n.key) ∧ Fits ns r n.right (k.rights n.key)
theorem fits_of : ∀ {f : Nat} {ns : List Nod} {met : List Nat} {at_ : Int} {k : Kb} {s : Sh}, shape ns f met at_ k = some s → Fits ns s at_ k
 | 0, _, _, _, _, _, h => by simp [shape] at h
 | f + 1, ns, met, at_, k, s, h => by
  obtain ⟨i, n, rfl, hn, _, hc⟩ := shape_some h
  rcases hc with ⟨hr, hk, rfl⟩ | ⟨hr, hk, l, r, rfl, hl, hr'⟩
  ·exact ⟨rfl, n, hn, hr, hk⟩
  ·exact ⟨rfl, n, hn, hr, hk, fits_of hl, fits_of hr'⟩
theorem Fits.lt {ns : List Nod} {s : Sh} {a : Int} {k : Kb} (h : Fits ns s a k) : ∀ i ∈ s.places, i < ns.length := by
 induction s generalizing a k with
 | leaf j =>
  obtain ⟨_, n, hn, _⟩ := h
  intro i hi
  simp [Sh.places] at hi
  subst hi
  exact lt_of_get hn
 | node j l r h1 h2 =>
  obtain ⟨_, n, hn, _, _, hl, hr⟩ := h
  intro i hi
  simp only [Sh.places, List.mem_cons, List.mem_append] at hi
  rcases hi with rfl | hi | hi
  ·exact lt_of_get hn
  ·exact h1 hl i hi
  ·exact h2 hr i hi
theorem Fits.hangs {ns : List Nod} {s : Sh} {a : Int} {k : Kb} (h : Fits ns s a k) : Hangs ns s a := by
 induction s generalizing a k with
 | leaf j => obtain ⟨h0, n, hn, hr, _⟩ := h; exact ⟨h0, n, hn, hr⟩
 | node j l r h1 h2 => obtain ⟨h0, n, hn, hr, _, hl, hr'⟩ := h; exact ⟨h0, n, hn, hr, h1 hl, h2 hr'⟩
theorem shape_of_fits {ns : List Nod} {s : Sh} {a : Int} {k : Kb} (h : Fits ns s a k) : ∀ {f : Nat} {met : List Nat}, s.places.Nodup → (∀ i ∈ s.places, i ∉ met) → s.size ≤ f → shape ns f met a k = some s := by
 induction s generalizing a k with
 | leaf j =>
  obtain ⟨rfl, n, hn, hr, hk⟩ := h
  intro f met _ hm hf
  cases f with
  | zero => simp [Sh.size] at hf
  | succ f =>
   have : met.contains j = false := by simpa using hm j (by simp [Sh.places])
   rw [sh_leaf hn this hr, hk]
   rfl
 | node j l r h1 h2 =>
  obtain ⟨rfl, n, hn, hr, hk, hl, hr'⟩ := h
  intro f met hnd hm hf
  cases f with
  | zero => simp only [Sh.size] at hf; omega
  | succ f =>
   simp only [Sh.size] at hf
   simp only [Sh.places, List.nodup_cons, List.mem_append, List.nodup_append] at hnd
   obtain ⟨hj, hn1, hn2, hd⟩ := hnd
   have hmj : met.contains j = false := by simpa using hm j (by simp [Sh.places])
   have e1 : shape ns f (j :: met) n.left (k.lefts n.key) = some l := h1 hl hn1 (fun i hi => by
    rw [List.mem_cons]
    rintro (h | h)
    ·subst h; exact hj (.inl hi)
    ·exact hm i (by simp [Sh.places, hi]) h) (by omega)
   have e2 : shape ns f (l.places ++ j :: met) n.right (k.rights n.key) = some r := h2 hr' hn2 (fun i hi => by
    rw [List.mem_append, List.mem_cons]
    rintro (h | h | h)
    ·exact hd i h i hi rfl
    ·subst h; exact hj (.inr hi)
    ·exact hm i (by simp [Sh.places, hi]) h) (by omega)
   rw [sh_right hn hmj hr hk e1, e2]
   rfl
theorem may_fits {t : PT} {s : Sh} (h : mayT t = some s) : Fits t.ns s t.root Kb.all := fits_of (may_hangs h).2.1
theorem may_of_fits {t : PT} {s : Sh} (hN : t.ns.length ≤ 2000) (hf : Fits t.ns s t.root Kb.all) (hn : s.places.Nodup) (ha : ∀ i, i < t.ns.length → i ∈ s.places) : mayT t = some s := by
 have h1 := nodup_len hn hf.lt
 rw [Sh.size_places] at h1
 have hs := shape_of_fits hf (f := t.ns.length + 1) (met := []) hn (fun _ _ => by simp) (by omega)
 unfold mayT
 rw [if_neg (by omega), hs]
 simp only []
 rw [if_pos]
 rw [List.all_eq_true]
 intro i hi
 simpa using ha i (List.mem_range.1 hi)
theorem Good.perm {t : PT} {s : Sh} (h : Good t s) : s.places.Perm (List.range t.ns.length) := by
 rw [List.perm_ext_iff_of_nodup h.nodup List.nodup_range]
 intro i
 rw [List.mem_range]
 exact ⟨h.lt i, h.all i⟩
theorem range_get {ns : List Nod} : (List.range ns.length).map (fun i => ns.getD i default) = ns := by
 apply List.ext_getElem?
 intro j
 by_cases hj : j < ns.length
 ·rw [List.getElem?_map, List.getElem?_range hj]
  simp [List.getElem?_eq_getElem hj]
 ·rw [List.getElem?_eq_none (by simp; omega), List.getElem?_eq_none (by omega)]
theorem Good.nodes {t : PT} {s : Sh} (h : Good t s) : (s.places.map fun i => t.ns.getD i default).Perm t.ns := by
 have := h.perm.map (fun i => t.ns.getD i default)
 rwa [range_get] at this
def sumZ : List Int → Int
 | [] => 0
 | a :: l => a + sumZ l
theorem sumZ_app (a b : List Int) : sumZ (a ++ b) = sumZ a + sumZ b := by
 induction a with
 | nil => simp [sumZ]
 | cons x a ih => simp only [List.cons_append, sumZ, ih]; omega
theorem sumZ_perm {a b : List Int} (h : a.Perm b) : sumZ a = sumZ b := by
 induction h with
 | nil => rfl
 | cons x _ ih => simp only [sumZ, ih]
 | swap x y l => simp only [sumZ]; omega
 | trans _ _ h1 h2 => exact h1.trans h2
def kids (n : Nod) : Int := if n.route then n.left + n.right else 0
theorem hang_sum {ns : List Nod} {s : Sh} {a : Int} (h : Hangs ns s a) : a + sumZ (s.places.map fun i => kids (ns.getD i default)) = sumZ (toI s.places) := by
 induction s generalizing a with
 | leaf i =>
  obtain ⟨rfl, n, hn, hr⟩ := h
  have hg : ns.getD i default = n := by rw [List.getD_eq_getElem?_getD, hn]; rfl
  simp only [Sh.places, List.map_cons, List.map_nil, sumZ, toI, hg, kids, hr]
  simp
 | node i l r h1 h2 =>
  obtain ⟨rfl, n, hn, hr, hl, hr'⟩ := h
  have hg : ns.getD i default = n := by rw [List.getD_eq_getElem?_getD, hn]; rfl
  have e1 := h1 hl
  have e2 := h2 hr'
  simp only [toI] at e1 e2 ⊢
  simp only [Sh.places, List.map_cons, List.map_append, sumZ, sumZ_app, hg]
  have : kids n = n.left + n.right := by simp [kids, hr]
  omega
theorem Good.sum {t : PT} {s : Sh} (h : Good t s) : t.root + sumZ (t.ns.map kids) = sumZ (toI (List.range t.ns.length)) := by
 have h1 := hang_sum h.hangs
 have h2 := sumZ_perm (h.perm.map (fun i : Nat => (i : Int)))
 have h3 := sumZ_perm (h.nodes.map kids)
 rw [List.map_map] at h3
 have h1' : t.root + sumZ (s.places.map (kids ∘ fun i => t.ns.getD i default)) = sumZ (s.places.map fun i : Nat => (i : Int)) := h1
 rw [h3, h2] at h1'
 exact h1'
def routesUpto (l : List Nod) (k : Nat) : Nat := (l.take k).countP (·.route)
theorem leaves_pairs {ns : List Nod} {s : Sh} {a : Int} {k : Kb} (h : Fits ns s a k) : (s.leaves.flatMap fun i => (ns.getD i default).l).length = ((s.places.map fun i => ns.getD i default).map fun n => n.l.length).sum := by
 induction s generalizing a k with
 | leaf i => simp [Sh.leaves, Sh.places]
 | node i l r h1 h2 =>
  obtain ⟨rfl, n, hn, hr, hk, hl, hr'⟩ := h
  have hg : ns.getD i default = n := by rw [List.getD_eq_getElem?_getD, hn]; rfl
  have e1 := h1 hl
  have e2 := h2 hr'
  have e3 : n.l.length = 0 := by rw [(route_pure hk).1]; rfl
  simp only [Sh.leaves, Sh.places, List.flatMap_append, List.map_cons, List.map_append, List.length_append, List.sum_cons, List.sum_append, hg, e1, e2, e3]
  omega
theorem sum_perm {a b : List Nat} (h : a.Perm b) : a.sum = b.sum := by
 induction h with
 | nil => rfl
 | cons x _ ih => simp only [List.sum_cons, ih]
 | swap x y l => simp only [List.sum_cons]; omega
 | trans _ _ h1 h2 => exact h1.trans h2
theorem all_pairs {t : PT} {s : Sh} (h : mayT t = some s) : (allT t).length = pairsUpto t.ns t.ns.length := by
 have h1 := leaves_pairs (may_fits h)
 rw [sum_perm ((good_of h).nodes.map _)] at h1
 rw [allT, leavesT, h, pairsUpto, List.take_of_length_le (Nat.le_refl _)]
 exact h1
theorem rises_pw {l : List Pr} : rises l = true ↔ l.Pairwise fun a b => a.k < b.k := by
 rw [List.pairwise_iff_getElem]
 constructor
 ·intro h i j hi hj hij
  exact rises_lt h i j _ _ hij (List.getElem?_eq_getElem hi) (List.getElem?_eq_getElem hj)
 ·intro h
  exact rises_iff.2 fun j a b ha hb => by
   obtain ⟨h1, rfl⟩ := List.getElem?_eq_some_iff.1 ha
   obtain ⟨h2, rfl⟩ := List.getElem?_eq_some_iff.1 hb
   exact h j (j + 1) h1 h2 (by omega)
theorem leafOk_parts {n : Nod} {k : Kb} : leafOk n k = true ↔ n.key = 0 ∧ n.left = 0 ∧ n.right = 0 ∧ rises n.l = true ∧ -1000000 ≤ n.stat ∧ n.stat ≤ 1000000 ∧ ∀ p ∈ n.l, k.has p.k = true := by
 simp [leafOk]
theorem routeOk_parts {n : Nod} {k : Kb} (h : routeOk n k = true) : n.l = [] ∧ n.stat = 0 ∧ k.has n.key = true ∧ ¬ (k.isLeast = true ∧ n.key = k.least) := by
 simp only [routeOk, Bool.and_eq_true, decide_eq_true_eq, List.isEmpty_iff, Bool.not_eq_true', Bool.and_eq_false_iff, decide_eq_false_iff_not] at h
 obtain ⟨h1, h2, h3, h4⟩ := h
 refine ⟨h1, h2, h3, ?_⟩
 rintro ⟨h5, h6⟩
 rcases h4 with h4 | h4
 ·rw [h5] at h4; cases h4
 ·exact h4 h6
theorem has_iff {k : Kb} {x : Int} : k.has x = true ↔ (k.isLeast = true → k.least ≤ x) ∧ (k.isMost = true → x < k.most) := by
 unfold Kb.has
 cases k.isLeast <;> cases k.isMost <;> simp
theorem has_lefts {k : Kb} {key x : Int} (hk : k.has key = true) : (k.lefts key).has x = true ↔ k.has x = true ∧ x < key := by
 rw [has_iff] at hk
 rw [has_iff, has_iff]
 simp only [Kb.lefts, forall_const]
 constructor
 ·rintro ⟨h1, h2⟩; exact ⟨⟨h1, fun h => by have := hk.2 h; omega⟩, h2⟩
 ·rintro ⟨⟨h1, h2⟩, h3⟩; exact ⟨h1, h3⟩
theorem has_rights {k : Kb} {key x : Int} (hk : k.has key = true) : (k.rights key).has x = true ↔ k.has x = true ∧ key ≤ x := by
 rw [has_iff] at hk
 rw [has_iff, has_iff]
 simp only [Kb.rights, forall_const]
 constructor
 ·rintro ⟨h1, h2⟩; exact ⟨⟨fun h => by have := hk.1 h; omega, h2⟩, h1⟩
 ·rintro ⟨⟨h1, h2⟩, h3⟩; exact ⟨h3, h2⟩
theorem fits_rise {ns : List Nod} {s : Sh} {a : Int} {k : Kb} (h : Fits ns s a k) : (s.leaves.flatMap fun i => (ns.getD i default).l).Pairwise (fun x y => x.k < y.k) ∧ ∀ p ∈ s.leaves.flatMap fun i => (ns.getD i default).l, k.has p.k = true := by
 induction s generalizing a k with
 | leaf i =>
  obtain ⟨rfl, n, hn, hr, hk⟩ := h
  have hg : ns.getD i default = n := by rw [List.getD_eq_getElem?_getD, hn]; rfl
  obtain ⟨_, _, _, h4, _, _, h7⟩ := leafOk_parts.1 hk
  have e : (Sh.leaf i).leaves.flatMap (fun i => (ns.getD i default).l) = n.l := by
   simp only [Sh.leaves, List.flatMap_cons, List.flatMap_nil, List.append_nil, hg]
  rw [e]
  exact ⟨rises_pw.1 h4, h7⟩
 | node i l r h1 h2 =>
  obtain ⟨rfl, n, hn, hr, hk, hl, hr'⟩ := h
  obtain ⟨a1, a2⟩ := h1 hl
  obtain ⟨b1, b2⟩ := h2 hr'
  obtain ⟨_, _, hh, _⟩ := routeOk_parts hk
  simp only [Sh.leaves, List.flatMap_append]
  refine ⟨List.pairwise_append.2 ⟨a1, b1, fun x hx y hy => ?_⟩, fun p hp => ?_⟩
  ·have h3 := ((has_lefts hh).1 (a2 x hx)).2
   have h4 := ((has_rights hh).1 (b2 y hy)).2
   omega
  ·rcases List.mem_append.1 hp with h5 | h5
   ·exact ((has_lefts hh).1 (a2 p h5)).1
   ·exact ((has_rights hh).1 (b2 p h5)).1
theorem all_rise (t : PT) : rises (allT t) = true := by
 unfold allT leavesT
 cases h : mayT t with
 | none => rfl
 | some s => exact rises_pw.2 (fits_rise (may_fits h)).1
theorem one_may (l : List Pr) : mayT (oneT l) = some (.leaf 0) := by
 refine may_of_fits (by simp [oneT]) ⟨rfl, _, rfl, rfl, ?_⟩ (by simp [Sh.places]) (fun i hi => by simp [oneT] at hi; simp [Sh.places, hi])
 rw [leafOk_parts]
 refine ⟨rfl, rfl, rfl, ?_, by show (-1000000 : Int) ≤ 0; decide, by show (0 : Int) ≤ 1000000; decide, fun p _ => rfl⟩
 show rises (if rises l then l else []) = true
 cases h : rises l
 ·rfl
 ·exact h
theorem one_leaves (l : List Pr) : leavesT (oneT l) = [0] := by simp [leavesT, one_may, Sh.leaves]
theorem one_all (l : List Pr) : allT (oneT l) = if rises l then l else [] := by
 simp only [allT, one_leaves, List.flatMap_cons, List.flatMap_nil, List.append_nil]
 rfl
end Go.Proofs.Ytmkodknmknfdkaa
