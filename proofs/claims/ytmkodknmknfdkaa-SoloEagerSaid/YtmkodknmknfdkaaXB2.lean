/- Texts of this seat, joined: part 2. -/
import Derived.WalkKit
import Derived.OrdersHeld
import Derived.Lib.MinMax
import Derived.Laws.AppendOwn
import Derived.ProofKit
import Derived.OpenShut
import Derived.ChangeOld
import Derived.Carry
import Derived.Deep.Slices
import Derived.Laws.MakeOwn
import Derived.Lib.SliceRun
import Derived.Test.YtmkodknmknfdkaaRows
import Derived.MapKept
import Derived.Lib.AppendZeros
import Derived.SizedLaws
import Derived.Test.YtmkodknmknfdkaaXB1
set_option linter.unusedVariables false
set_option linter.unusedSimpArgs false
namespace Go.Proofs.Ytmkodknmknfdkaa
open E
set_option maxRecDepth 4000
theorem t22 : tRow Try.prog 22 = some (true, 1, 24, .slice none 0 0) := by kernel_rfl
theorem t24 : tRow Try.prog 24 = some (false, 2, 32, .agg #[.int .i64 0, .slice none 0 0]) := by kernel_rfl
theorem t38 : tRow Try.prog 38 = some (true, 1, 24, .slice none 0 0) := by kernel_rfl
theorem t97 : tRow Try.prog 97 = some (false, 4, 64, .agg #[.int .i64 0, .slice none 0 0, .slice none 0 0, .int .i64 0]) := by kernel_rfl
theorem s24 : sRow Try.prog 24 = some [(0, 1, true), (1, 1, true)] := by kernel_rfl
theorem s97 : sRow Try.prog 97 = some [(0, 2, false), (2, 1, true), (3, 1, true)] := by kernel_rfl
theorem en68 : Enters Try.prog 68 := Enters.mk' Try.func68 rfl rfl
theorem en69 : Enters Try.prog 69 := Enters.mk' Try.func69 rfl rfl
theorem en71 : Enters Try.prog 71 := Enters.mk' Try.func71 rfl rfl
theorem en73 : Enters Try.prog 73 := Enters.mk' Try.func73 rfl rfl
theorem en103 : Enters Try.prog 103 := Enters.mk' Try.func103 rfl rfl
theorem may68_step (t : Tr) (f : Nat) (ih : May68 t f) : May68 t (f + 1) := by
  intro met at_ k b a c Mm hb hO
  refine Con.body 139 Try.func68 rfl Try.ntmps68 rfl fun X H₀ L₀ => ?_
  refine At.lenOf (hs := (.tail _ (.head _))) fun hlen => ?_
  rw [List.length_map] at hlen
  refine At.seq ?_
  refine At.region ?_
  refine At.loud (l_box rfl) rfl ?_
  rintro _ _ _ ⟨b1, rfl, rfl, rfl⟩
  refine At.freeze 0 (φ := blk b1 _) rfl (fun _ h => blk_def.2 ⟨_, _, h⟩) ?_
  refine At.skim 1 rfl rfl ?_
  refine At.nil ?_
  refine At.then ?_
  refine At.seq ?_
  refine At.seq ?_
  refine At.region ?_
  refine At.skim 3 rfl rfl ?_
  refine At.splitP (d := 12) rfl (fun hneg => ?_) (fun hneg => ?_)
  · skip
    refine At.skim 18 rfl rfl ?_
    refine At.nil ?_
    refine At.then ?_
    refine At.condT rfl ?_
    refine At.seq ?_
    refine At.region ?_
    refine At.skim 1 rfl rfl ?_
    refine At.nil ?_
    refine At.then ?_
    refine At.ret ?_
    refine At.thenRet ?_
    exact At.results (Γr := []) (M := [[(b, .cells #[.int .i64 t.root, t.ns.val, .slice a t.ns.l.length c, .int .i64 ((bits t.ns.l.length met).count true : Nat)] 97 (0, 0))], Mm]) rfl (RVals.cons (RVal.tmp rfl) RVals.nil) (.tail _ (.head _)) (fun _ _ => trivial) (.cons_cons _ (.cons_cons _ (.refl _))) ⟨_, _, congrArg Value.bool (by rw [sh_neg hneg]; rfl), rfl, rfl, .no (sh_neg hneg)⟩
  · skip
    obtain ⟨i, rfl⟩ := Int.eq_ofNat_of_zero_le (show 0 ≤ at_ by omega)
    refine At.skim 3 rfl rfl ?_
    refine At.open rfl rfl ?_
    refine At.quiet (q_fieldAddr s97 rfl rfl rfl) rfl ?_
    refine At.open rfl rfl ?_
    refine At.quiet (q_fieldAddr s24 rfl rfl rfl) rfl ?_
    refine At.open rfl rfl ?_
    refine At.quiet (q_load t22 rfl (Rd.loc (i := 0) rfl rfl)) rfl ?_
    refine At.open rfl rfl ?_
    refine At.quiet (q_len Try.underlying22 rfl) rfl ?_
    refine At.skim 3 rfl rfl ?_
    refine At.splitP (d := 22) rfl (fun hout => ?_) (fun hout => ?_)
    · skip
      refine At.skim 8 rfl rfl ?_
      refine At.nil ?_
      refine At.then ?_
      refine At.condT rfl ?_
      refine At.seq ?_
      refine At.region ?_
      refine At.skim 1 rfl rfl ?_
      refine At.nil ?_
      refine At.then ?_
      refine At.ret ?_
      refine At.thenRet ?_
      exact At.results (Γr := []) (M := [[(b, .cells #[.int .i64 t.root, t.ns.val, .slice a t.ns.l.length c, .int .i64 ((bits t.ns.l.length met).count true : Nat)] 97 (0, 0))], Mm]) rfl (RVals.cons (RVal.tmp rfl) RVals.nil) (.tail _ (.head _)) (fun _ _ => trivial) (.cons_cons _ (.cons_cons _ (.refl _))) ⟨_, _, congrArg Value.bool (by rw [sh_out (by simp [Tr.p]; omega)]; rfl), rfl, rfl, .no (sh_out (by simp [Tr.p]; omega))⟩
    · skip
      have hi : i < t.ns.l.length := by omega
      obtain ⟨x, hx⟩ := get_of_lt hi
      have hxp : t.p.ns[i]? = some x.p := map_get hx
      have hcl := count_le t.ns.l.length met
      refine At.skim 2 rfl rfl ?_
      refine At.open rfl rfl ?_
      refine At.quiet (q_fieldAddr s97 rfl rfl rfl) rfl ?_
      refine At.open rfl rfl ?_
      refine At.quiet (q_load t38 rfl (Rd.loc (i := 0) rfl rfl)) rfl ?_
      refine At.skim 1 rfl rfl ?_
      refine At.open rfl rfl ?_
      refine At.quiet (q_indexOwn Try.underlying38 t4 rfl hO (by simp [bits_length]) rfl rfl hi) rfl ?_
      refine At.open rfl rfl ?_
      refine At.quiet (q_load t4 rfl (Rd.own0 hO (i := 1) rfl (map_get (bits_get hi)) rfl)) rfl ?_
      refine At.skim 1 rfl rfl ?_
      refine At.nil ?_
      refine At.then ?_
      refine At.cond rfl (fun hmet => ?_) (fun hmet => ?_)
      · skip
        refine At.seq ?_
        refine At.region ?_
        refine At.skim 1 rfl rfl ?_
        refine At.nil ?_
        refine At.then ?_
        refine At.ret ?_
        refine At.thenRet ?_
        exact At.results (Γr := []) (M := [[(b, .cells #[.int .i64 t.root, t.ns.val, .slice a t.ns.l.length c, .int .i64 ((bits t.ns.l.length met).count true : Nat)] 97 (0, 0))], Mm]) rfl (RVals.cons (RVal.tmp rfl) RVals.nil) (.tail _ (.head _)) (fun _ _ => trivial) (.cons_cons _ (.cons_cons _ (.refl _))) ⟨_, _, congrArg Value.bool (by rw [sh_met hmet]; rfl), rfl, rfl, .no (sh_met hmet)⟩
      · skip
        have hcs := count_step hi hmet
        have hcl2 := count_le t.ns.l.length (i :: met)
        refine At.skip ?_
        refine At.then ?_
        refine At.seq ?_
        refine At.region ?_
        refine At.skim 2 rfl rfl ?_
        refine At.fld s97 t38 rfl rfl rfl (Rd.loc (i := 0) rfl rfl) rfl rfl ?_
        refine At.skim 1 rfl rfl ?_
        refine At.quiet (q_indexOwn Try.underlying38 t4 rfl hO (by simp [bits_length]) rfl rfl hi) rfl ?_
        refine At.loudN (l_storeOwn0 t4 rfl rfl hO (i := 1) rfl (map_get (bits_get hi)) rfl rfl rfl) ?_
        rintro _ _ _ ⟨Mow1, ow1, rfl, rfl⟩
        refine At.nil ?_
        refine At.then ?_
        refine At.seq ?_
        refine At.region ?_
        have hO2 : Own 4 1 ((bits t.ns.l.length (i :: met)).map rowB) a c Mow1 := by rw [← bits_row _ _ _ (met.contains i)]; exact ow1
        refine At.skim 2 rfl rfl ?_
        refine At.fld s97 t3 rfl rfl rfl (Rd.loc (i := 0) rfl rfl) rfl rfl ?_
        refine At.quiet (q_add rfl rfl (by omega) (by omega)) rfl ?_
        refine At.say 41 (.int .i64 ((bits t.ns.l.length (i :: met)).count true : Nat)) rfl (congrArg (Value.int .i64) (by omega)) ?_
        refine At.know (prsP x.ps) (fun _ h => psP_get h.2.2.2.1 hx) ?_
        refine At.skim 1 rfl rfl ?_
        refine At.quiet (q_fieldAddr s97 rfl rfl rfl) rfl ?_
        refine At.loudN (l_store t3 rfl rfl (i := 0) rfl rfl rfl rfl) ?_
        rintro _ _ _ ⟨rfl, rfl⟩
        refine At.nil ?_
        refine At.then ?_
        refine At.seq ?_
        refine At.region ?_
        refine At.skim 2 rfl rfl ?_
        refine At.quiet (q_fieldAddr s97 rfl rfl rfl) rfl ?_
        refine At.fld s24 t22 rfl rfl rfl (Rd.loc (i := 0) rfl rfl) rfl rfl ?_
        refine At.skim 1 rfl rfl ?_
        refine At.quiet (q_index Try.underlying22 t33 rfl (.tail _ (.tail _ (.tail _ (.head _)))) (by simp) rfl rfl (lt_of_get hx)) rfl ?_
        refine At.quiet (q_loadS t33 rfl (RdS.sl0 (.tail _ (.tail _ (.tail _ (.head _)))) (map_get hx)) rfl) rfl ?_
        refine At.loud (l_alloc t33) rfl ?_
        rintro _ _ _ ⟨b2, rfl, rfl, rfl⟩
        refine At.loudN (l_store t33 rfl rfl (i := 0) rfl rfl rfl rfl) ?_
        rintro _ _ _ ⟨rfl, rfl⟩
        refine At.nil ?_
        refine At.then ?_
        refine At.seq ?_
        refine At.seq ?_
        refine At.region ?_
        refine At.fld s33 t4 rfl rfl rfl (Rd.loc (i := 0) rfl rfl) rfl rfl ?_
        refine At.skim 1 rfl rfl ?_
        refine At.nil ?_
        refine At.then ?_
        refine At.cond rfl (fun hleaf => ?_) (fun hleaf => ?_)
        · skip
          refine At.seq ?_
          refine At.region ?_
          refine At.fld s33 t3 rfl rfl rfl (Rd.loc (i := 0) rfl rfl) rfl rfl ?_
          refine At.skim 2 rfl rfl ?_
          refine At.splitP (d := 58) rfl (fun h2 => ?_) (fun h2 => ?_)
          · skip
            refine At.open rfl rfl ?_
            refine At.quiet (q_fieldAddr s33 rfl rfl rfl) rfl ?_
            refine At.open rfl rfl ?_
            refine At.quiet (q_load t3 rfl (Rd.loc (i := 0) rfl rfl)) rfl ?_
            refine At.skim 3 rfl rfl ?_
            refine At.splitP (d := 63) rfl (fun h3 => ?_) (fun h3 => ?_)
            · skip
              refine At.open rfl rfl ?_
              refine At.quiet (q_fieldAddr s33 rfl rfl rfl) rfl ?_
              refine At.open rfl rfl ?_
              refine At.quiet (q_load t3 rfl (Rd.loc (i := 0) rfl rfl)) rfl ?_
              refine At.skim 3 rfl rfl ?_
              refine At.splitP (d := 68) rfl (fun h4 => ?_) (fun h4 => ?_)
              · skip
                refine At.open rfl rfl ?_
                refine At.quiet (q_fieldAddr s33 rfl rfl rfl) rfl ?_
                refine At.open rfl rfl ?_
                refine At.quiet (q_load t31 rfl (Rd.loc (i := 0) rfl rfl)) rfl ?_
                refine At.open rfl rfl ?_
                refine At.call en71 rfl (may71 _) (fun _ h => ⟨h.1, trivial⟩) (List.Perm.refl _) rfl ?_
                rintro _ _ _ ⟨rfl, rfl, rfl⟩
                refine At.skim 2 rfl rfl ?_
                refine At.split (d := 73) rfl (fun h5 => ?_) (fun h5 => ?_)
                · skip
                  refine At.open rfl rfl ?_
                  refine At.quiet (q_fieldAddr s33 rfl rfl rfl) rfl ?_
                  refine At.open rfl rfl ?_
                  refine At.quiet (q_load t3 rfl (Rd.loc (i := 0) rfl rfl)) rfl ?_
                  refine At.skim 3 rfl rfl ?_
                  refine At.splitP (d := 78) rfl (fun h6 => ?_) (fun h6 => ?_)
                  · skip
                    refine At.open rfl rfl ?_
                    refine At.quiet (q_fieldAddr s33 rfl rfl rfl) rfl ?_
                    refine At.open rfl rfl ?_
                    refine At.quiet (q_load t3 rfl (Rd.loc (i := 0) rfl rfl)) rfl ?_
                    refine At.skim 3 rfl rfl ?_
                    refine At.splitP (d := 83) rfl (fun h7 => ?_) (fun h7 => ?_)
                    · skip
                      refine At.open rfl rfl ?_
                      refine At.quiet (q_fieldAddr s33 rfl rfl rfl) rfl ?_
                      refine At.open rfl rfl ?_
                      refine At.quiet (q_load t31 rfl (Rd.loc (i := 0) rfl rfl)) rfl ?_
                      refine At.open rfl rfl ?_
                      refine At.quiet (q_makeFunc rfl rfl) rfl ?_
                      refine At.open rfl rfl ?_
                      refine At.call en103 rfl (some103 _ 104 [_] (fun p => !k.has p.k) _ en104 (fun y => out104 k y b1)) (fun _ h => ⟨h.1, h.2.1, trivial⟩) (List.Perm.refl _) rfl ?_
                      rintro _ _ _ ⟨rfl, rfl, rfl⟩
                      refine At.skim 3 rfl rfl ?_
                      refine At.nil ?_
                      refine At.then ?_
                      refine At.ret ?_
                      refine At.thenRet ?_
                      exact At.results (Γr := []) (M := [[(b, .cells #[.int .i64 t.root, t.ns.val, .slice a t.ns.l.length c, .int .i64 ((bits t.ns.l.length (i :: met)).count true : Nat)] 97 (0, 0))], _]) rfl (RVals.cons (RVal.tmp rfl) RVals.nil) (.tail _ (.tail _ (.head _))) (fun _ _ => trivial) (.cons _ (.cons_cons _ (.cons_cons _ (.refl _)))) ⟨_, _, congrArg Value.bool (by rw [sh_leaf hxp hmet (by simpa [Nd.p] using hleaf), isSome_ite]; simp [leafOk, Nd.p, any_not, hneg, hout, hmet, hleaf, h2, h3, h4, h5, h6, h7] <;> omega), rfl, rfl, .leaf (sh_leaf hxp hmet (by simpa [Nd.p] using hleaf)) hO2⟩
                    · skip
                      refine At.skim 7 rfl rfl ?_
                      refine At.nil ?_
                      refine At.then ?_
                      refine At.ret ?_
                      refine At.thenRet ?_
                      exact At.results (Γr := []) (M := [[(b, .cells #[.int .i64 t.root, t.ns.val, .slice a t.ns.l.length c, .int .i64 ((bits t.ns.l.length (i :: met)).count true : Nat)] 97 (0, 0))], _]) rfl (RVals.cons (RVal.tmp rfl) RVals.nil) (.tail _ (.tail _ (.head _))) (fun _ _ => trivial) (.cons _ (.cons_cons _ (.cons_cons _ (.refl _)))) ⟨_, _, congrArg Value.bool (by rw [sh_leaf hxp hmet (by simpa [Nd.p] using hleaf), isSome_ite]; simp [leafOk, Nd.p, any_not, hneg, hout, hmet, hleaf, h2, h3, h4, h5, h6, h7] <;> omega), rfl, rfl, .leaf (sh_leaf hxp hmet (by simpa [Nd.p] using hleaf)) hO2⟩
                  · skip
                    refine At.skim 12 rfl rfl ?_
                    refine At.nil ?_
                    refine At.then ?_
                    refine At.ret ?_
                    refine At.thenRet ?_
                    exact At.results (Γr := []) (M := [[(b, .cells #[.int .i64 t.root, t.ns.val, .slice a t.ns.l.length c, .int .i64 ((bits t.ns.l.length (i :: met)).count true : Nat)] 97 (0, 0))], _]) rfl (RVals.cons (RVal.tmp rfl) RVals.nil) (.tail _ (.tail _ (.head _))) (fun _ _ => trivial) (.cons _ (.cons_cons _ (.cons_cons _ (.refl _)))) ⟨_, _, congrArg Value.bool (by rw [sh_leaf hxp hmet (by simpa [Nd.p] using hleaf), isSome_ite]; simp [leafOk, Nd.p, any_not, hneg, hout, hmet, hleaf, h2, h3, h4, h5, h6] <;> omega), rfl, rfl, .leaf (sh_leaf hxp hmet (by simpa [Nd.p] using hleaf)) hO2⟩
                · skip
                  refine At.skim 17 rfl rfl ?_
                  refine At.nil ?_
                  refine At.then ?_
                  refine At.ret ?_
                  refine At.thenRet ?_
                  exact At.results (Γr := []) (M := [[(b, .cells #[.int .i64 t.root, t.ns.val, .slice a t.ns.l.length c, .int .i64 ((bits t.ns.l.length (i :: met)).count true : Nat)] 97 (0, 0))], _]) rfl (RVals.cons (RVal.tmp rfl) RVals.nil) (.tail _ (.tail _ (.head _))) (fun _ _ => trivial) (.cons _ (.cons_cons _ (.cons_cons _ (.refl _)))) ⟨_, _, congrArg Value.bool (by rw [sh_leaf hxp hmet (by simpa [Nd.p] using hleaf), isSome_ite]; simp [leafOk, Nd.p, any_not, hneg, hout, hmet, hleaf, h2, h3, h4, h5] <;> omega), rfl, rfl, .leaf (sh_leaf hxp hmet (by simpa [Nd.p] using hleaf)) hO2⟩
              · skip
                refine At.skim 22 rfl rfl ?_
                refine At.nil ?_
                refine At.then ?_
                refine At.ret ?_
                refine At.thenRet ?_
                exact At.results (Γr := []) (M := [[(b, .cells #[.int .i64 t.root, t.ns.val, .slice a t.ns.l.length c, .int .i64 ((bits t.ns.l.length (i :: met)).count true : Nat)] 97 (0, 0))], _]) rfl (RVals.cons (RVal.tmp rfl) RVals.nil) (.tail _ (.tail _ (.head _))) (fun _ _ => trivial) (.cons _ (.cons_cons _ (.cons_cons _ (.refl _)))) ⟨_, _, congrArg Value.bool (by rw [sh_leaf hxp hmet (by simpa [Nd.p] using hleaf), isSome_ite]; simp [leafOk, Nd.p, any_not, hneg, hout, hmet, hleaf, h2, h3, h4] <;> omega), rfl, rfl, .leaf (sh_leaf hxp hmet (by simpa [Nd.p] using hleaf)) hO2⟩
            · skip
              refine At.skim 27 rfl rfl ?_
              refine At.nil ?_
              refine At.then ?_
              refine At.ret ?_
              refine At.thenRet ?_
              exact At.results (Γr := []) (M := [[(b, .cells #[.int .i64 t.root, t.ns.val, .slice a t.ns.l.length c, .int .i64 ((bits t.ns.l.length (i :: met)).count true : Nat)] 97 (0, 0))], _]) rfl (RVals.cons (RVal.tmp rfl) RVals.nil) (.tail _ (.tail _ (.head _))) (fun _ _ => trivial) (.cons _ (.cons_cons _ (.cons_cons _ (.refl _)))) ⟨_, _, congrArg Value.bool (by rw [sh_leaf hxp hmet (by simpa [Nd.p] using hleaf), isSome_ite]; simp [leafOk, Nd.p, any_not, hneg, hout, hmet, hleaf, h2, h3] <;> omega), rfl, rfl, .leaf (sh_leaf hxp hmet (by simpa [Nd.p] using hleaf)) hO2⟩
          · skip
            refine At.skim 32 rfl rfl ?_
            refine At.nil ?_
            refine At.then ?_
            refine At.ret ?_
            refine At.thenRet ?_
            exact At.results (Γr := []) (M := [[(b, .cells #[.int .i64 t.root, t.ns.val, .slice a t.ns.l.length c, .int .i64 ((bits t.ns.l.length (i :: met)).count true : Nat)] 97 (0, 0))], _]) rfl (RVals.cons (RVal.tmp rfl) RVals.nil) (.tail _ (.tail _ (.head _))) (fun _ _ => trivial) (.cons _ (.cons_cons _ (.cons_cons _ (.refl _)))) ⟨_, _, congrArg Value.bool (by rw [sh_leaf hxp hmet (by simpa [Nd.p] using hleaf), isSome_ite]; simp [leafOk, Nd.p, any_not, hneg, hout, hmet, hleaf, h2] <;> omega), rfl, rfl, .leaf (sh_leaf hxp hmet (by simpa [Nd.p] using hleaf)) hO2⟩
        · skip
          have hroute : x.p.route = true := by simpa [Nd.p] using hleaf
          refine At.skip ?_
          refine At.then ?_
          refine At.seq ?_
          refine At.seq ?_
          refine At.region ?_
          refine At.fld s33 t31 rfl rfl rfl (Rd.loc (i := 0) rfl rfl) rfl rfl ?_
          refine At.quiet (q_len Try.underlying31 rfl) rfl ?_
          refine At.skim 2 rfl rfl ?_
          refine At.splitP (d := 94) rfl (fun hlen0 => ?_) (fun hlen0 => ?_)
          · skip
            refine At.skim 22 rfl rfl ?_
            refine At.nil ?_
            refine At.then ?_
            refine At.condT rfl ?_
            refine At.seq ?_
            refine At.region ?_
            refine At.skim 1 rfl rfl ?_
            refine At.nil ?_
            refine At.then ?_
            refine At.ret ?_
            refine At.thenRet ?_
            exact At.results (Γr := []) (M := [[(b, .cells #[.int .i64 t.root, t.ns.val, .slice a t.ns.l.length c, .int .i64 ((bits t.ns.l.length (i :: met)).count true : Nat)] 97 (0, 0))], _]) rfl (RVals.cons (RVal.tmp rfl) RVals.nil) (.tail _ (.tail _ (.head _))) (fun _ _ => trivial) (.cons _ (.cons_cons _ (.cons_cons _ (.refl _)))) ⟨_, _, congrArg Value.bool (by rw [sh_bad hxp hroute (by cases hps : x.ps.l <;> simp_all [routeOk, Nd.p])]; rfl), rfl, rfl, .no (sh_bad hxp hroute (by cases hps : x.ps.l <;> simp_all [routeOk, Nd.p]))⟩
          · skip
            refine At.open rfl rfl ?_
            refine At.quiet (q_fieldAddr s33 rfl rfl rfl) rfl ?_
            refine At.open rfl rfl ?_
            refine At.quiet (q_load t3 rfl (Rd.loc (i := 0) rfl rfl)) rfl ?_
            refine At.skim 3 rfl rfl ?_
            refine At.splitP (d := 99) rfl (fun hstat => ?_) (fun hstat => ?_)
            · skip
              refine At.skim 17 rfl rfl ?_
              refine At.nil ?_
              refine At.then ?_
              refine At.condT rfl ?_
              refine At.seq ?_
              refine At.region ?_
              refine At.skim 1 rfl rfl ?_
              refine At.nil ?_
              refine At.then ?_
              refine At.ret ?_
              refine At.thenRet ?_
              exact At.results (Γr := []) (M := [[(b, .cells #[.int .i64 t.root, t.ns.val, .slice a t.ns.l.length c, .int .i64 ((bits t.ns.l.length (i :: met)).count true : Nat)] 97 (0, 0))], _]) rfl (RVals.cons (RVal.tmp rfl) RVals.nil) (.tail _ (.tail _ (.head _))) (fun _ _ => trivial) (.cons _ (.cons_cons _ (.cons_cons _ (.refl _)))) ⟨_, _, congrArg Value.bool (by rw [sh_bad hxp hroute (by simp_all [routeOk, Nd.p])]; rfl), rfl, rfl, .no (sh_bad hxp hroute (by simp_all [routeOk, Nd.p]))⟩
            · skip
              refine At.open rfl rfl ?_
              refine At.quiet (q_loadS t100 rfl (RdS.blk (.tail _ (.head _)) (m := 4) rfl) rfl) rfl ?_
              refine At.open rfl rfl ?_
              refine At.quiet (q_fieldAddr s33 rfl rfl rfl) rfl ?_
              refine At.open rfl rfl ?_
              refine At.quiet (q_load t3 rfl (Rd.loc (i := 0) rfl rfl)) rfl ?_
              refine At.open rfl rfl ?_
              refine At.call en105 rfl (has105 _ _) (fun _ _ => trivial) (List.Perm.refl _) rfl ?_
              rintro _ _ _ ⟨rfl, rfl, rfl⟩
              refine At.skim 3 rfl rfl ?_
              refine At.split (d := 106) rfl (fun hhas => ?_) (fun hhas => ?_)
              · skip
                refine At.skim 10 rfl rfl ?_
                refine At.nil ?_
                refine At.then ?_
                refine At.condT rfl ?_
                refine At.seq ?_
                refine At.region ?_
                refine At.skim 1 rfl rfl ?_
                refine At.nil ?_
                refine At.then ?_
                refine At.ret ?_
                refine At.thenRet ?_
                exact At.results (Γr := []) (M := [[(b, .cells #[.int .i64 t.root, t.ns.val, .slice a t.ns.l.length c, .int .i64 ((bits t.ns.l.length (i :: met)).count true : Nat)] 97 (0, 0))], _]) rfl (RVals.cons (RVal.tmp rfl) RVals.nil) (.tail _ (.tail _ (.head _))) (fun _ _ => trivial) (.cons _ (.cons_cons _ (.cons_cons _ (.refl _)))) ⟨_, _, congrArg Value.bool (by rw [sh_bad hxp hroute (by simp_all [routeOk, Nd.p])]; rfl), rfl, rfl, .no (sh_bad hxp hroute (by simp_all [routeOk, Nd.p]))⟩
              · skip
                refine At.open rfl rfl ?_
                refine At.quiet (q_fieldAddr s100 rfl rfl rfl) rfl ?_
                refine At.open rfl rfl ?_
                refine At.quiet (q_load t4 rfl (Rd.blk (.tail _ (.head _)) rfl)) rfl ?_
                refine At.skim 1 rfl rfl ?_
                refine At.split (d := 109) rfl (fun hil => ?_) (fun hil => ?_)
                · skip
                  refine At.open rfl rfl ?_
                  refine At.quiet (q_fieldAddr s33 rfl rfl rfl) rfl ?_
                  refine At.open rfl rfl ?_
                  refine At.quiet (q_load t3 rfl (Rd.loc (i := 0) rfl rfl)) rfl ?_
                  refine At.open rfl rfl ?_
                  refine At.quiet (q_fieldAddr s100 rfl rfl rfl) rfl ?_
                  refine At.open rfl rfl ?_
                  refine At.quiet (q_load t3 rfl (Rd.blk (.tail _ (.head _)) rfl)) rfl ?_
                  refine At.skim 3 rfl rfl ?_
                  refine At.nil ?_
                  refine At.then ?_
                  refine At.if rfl (fun hkl => ?_) (fun hkl => ?_)
                  · skip
                    refine At.seq ?_
                    refine At.region ?_
                    refine At.skim 1 rfl rfl ?_
                    refine At.nil ?_
                    refine At.then ?_
                    refine At.ret ?_
                    refine At.thenRet ?_
                    exact At.results (Γr := []) (M := [[(b, .cells #[.int .i64 t.root, t.ns.val, .slice a t.ns.l.length c, .int .i64 ((bits t.ns.l.length (i :: met)).count true : Nat)] 97 (0, 0))], _]) rfl (RVals.cons (RVal.tmp rfl) RVals.nil) (.tail _ (.tail _ (.head _))) (fun _ _ => trivial) (.cons _ (.cons_cons _ (.cons_cons _ (.refl _)))) ⟨_, _, congrArg Value.bool (by rw [sh_bad hxp hroute (by simp_all [routeOk, Nd.p])]; rfl), rfl, rfl, .no (sh_bad hxp hroute (by simp_all [routeOk, Nd.p]))⟩
                  · skip
                    have hgood : routeOk x.p k = true := by simp_all [routeOk, Nd.p]
                    have hfull := count_more
                    refine At.skip ?_
                    refine At.then ?_
                    refine At.seq ?_
                    refine At.draw 5 (.q 0 (.q 1 (.t 2 (.o 3 (.o 4 (.e))) 3 (.o 2 (.o 4 (.e)))))) _ (List.Sublist.refl _) mixed (by kernel_rfl) rfl ?_
                    refine AtO.quiet rfl (q_loadS t100 rfl (RdS.blk (.tail _ (.head _)) (m := 4) rfl) rfl) rfl (Calm.then Post.calm) ?_
                    refine AtO.quiet rfl (q_loadS t100 rfl (RdS.blk (.tail _ (.head _)) (m := 4) rfl) rfl) rfl (Calm.then Post.calm) ?_
                    refine AtO.two ?_ ?_
                    · skip
                      refine AtO.loud rfl (l_alloc t100) rfl (by rintro _ _ _ ⟨_, rfl, rfl, rfl⟩; exact ⟨fun _ h => h, .cons _ (.refl _)⟩) ?_
                      rintro _ _ _ ⟨b3, rfl, rfl, rfl⟩
                      refine AtO.loud rfl (l_alloc t100) rfl (by rintro _ _ _ ⟨_, rfl, rfl, rfl⟩; exact ⟨fun _ h => h, .cons _ (.cons _ (.cons_cons _ (.cons_cons _ (.cons_cons _ (.refl _)))))⟩) ?_
                      rintro _ _ _ ⟨b4, rfl, rfl, rfl⟩
                      refine AtO.loudNA rfl (l_store t100 rfl rfl (i := 1) rfl rfl rfl rfl) (by rintro _ _ _ ⟨rfl, rfl⟩; exact ⟨fun _ h => h, (.cons _ (.cons _ (.cons_cons _ (.cons_cons _ (.cons_cons _ (.refl _))))))⟩) ?_
                      rintro _ _ _ ⟨rfl, rfl⟩
                      refine AtO.done ?_
                      refine At.loudN (l_store t100 rfl rfl (i := 0) rfl rfl rfl rfl) ?_
                      rintro _ _ _ ⟨rfl, rfl⟩
                      refine At.nil ?_
                      refine At.then ?_
                      refine At.seq ?_
                      refine At.region ?_
                      refine At.fld s33 t3 rfl rfl rfl (Rd.loc (i := 2) rfl rfl) rfl rfl ?_
                      refine At.quiet (q_fieldAddr s100 rfl rfl rfl) rfl ?_
                      refine At.loudN (l_store t3 rfl rfl (i := 1) rfl rfl rfl rfl) ?_
                      rintro _ _ _ ⟨rfl, rfl⟩
                      refine At.quiet (q_fieldAddr s100 rfl rfl rfl) rfl ?_
                      refine At.loudN (l_store t4 rfl rfl (i := 1) rfl rfl rfl rfl) ?_
                      rintro _ _ _ ⟨rfl, rfl⟩
                      refine At.nil ?_
                      refine At.then ?_
                      refine At.seq ?_
                      refine At.region ?_
                      refine At.fld s33 t3 rfl rfl rfl (Rd.loc (i := 2) rfl rfl) rfl rfl ?_
                      refine At.quiet (q_fieldAddr s100 rfl rfl rfl) rfl ?_
                      refine At.loudN (l_store t3 rfl rfl (i := 0) rfl rfl rfl rfl) ?_
                      rintro _ _ _ ⟨rfl, rfl⟩
                      refine At.quiet (q_fieldAddr s100 rfl rfl rfl) rfl ?_
                      refine At.loudN (l_store t4 rfl rfl (i := 0) rfl rfl rfl rfl) ?_
                      rintro _ _ _ ⟨rfl, rfl⟩
                      refine At.nil ?_
                      refine At.then ?_
                      refine At.seq ?_
                      refine At.region ?_
                      refine At.skim 1 rfl rfl ?_
                      refine At.fld s33 t3 rfl rfl rfl (Rd.loc (i := 2) rfl rfl) rfl rfl ?_
                      refine At.quiet (q_loadS t100 rfl (RdS.loc (i := 1) rfl (m := 4) rfl) rfl) rfl ?_
                      refine At.front 4 rfl ?_
                      refine At.front 4 rfl ?_
                      refine At.call en68 rfl (ih (i :: met) x.left (k.lefts x.key) b a c _ (by omega) hO2) (fun _ h => ⟨h.2.2.2.1, h.2.2.2.2.1, trivial⟩) (List.Perm.refl _) rfl ?_
                      rintro _ _ _ ⟨n1, m2, rfl, rfl, rfl, he1⟩
                      refine At.skim 1 rfl rfl ?_
                      refine At.split (d := 132) rfl (fun hl => ?_) (fun hl => ?_)
                      · skip
                        obtain ⟨s1, hs1⟩ := Option.isSome_iff_exists.1 hl
                        obtain ⟨rfl, hO3⟩ := he1 s1 hs1
                        have hcm := count_more t.ns.l.length s1.places (i :: met)
                        refine At.skim 1 rfl rfl ?_
                        refine At.open rfl rfl ?_
                        refine At.quiet (q_fieldAddr s33 rfl rfl rfl) rfl ?_
                        refine At.open rfl rfl ?_
                        refine At.quiet (q_load t3 rfl (Rd.loc (i := 4) rfl rfl)) rfl ?_
                        refine At.open rfl rfl ?_
                        refine At.quiet (q_loadS t100 rfl (RdS.loc (i := 2) rfl (m := 4) rfl) rfl) rfl ?_
                        refine At.open rfl rfl ?_
                        refine At.front 1 rfl ?_
                        refine At.front 1 rfl ?_
                        refine At.call en68 rfl (ih (s1.places ++ i :: met) x.right (k.rights x.key) b a c _ (by omega) hO3) (fun _ h => ⟨h.2.2.2.1, h.2.2.2.2.1, trivial⟩) (List.Perm.refl _) rfl ?_
                        rintro _ _ _ ⟨n2, m3, rfl, rfl, rfl, he2⟩
                        refine At.skim 2 rfl rfl ?_
                        refine At.nil ?_
                        refine At.then ?_
                        refine At.ret ?_
                        exact At.results (Γr := []) (M := [[(b, .cells #[.int .i64 t.root, t.ns.val, .slice a t.ns.l.length c, .int .i64 n2] 97 (0, 0))], m3]) rfl (RVals.cons (RVal.tmp rfl) RVals.nil) (.tail _ (.tail _ (.head _))) (fun _ _ => trivial) (.cons_cons _ (.cons_cons _ (.cons _ (.cons _ (.cons _ (.refl _)))))) ⟨_, _, congrArg Value.bool (by rw [sh_right hxp hmet hroute hgood hs1, isSome_map]; rfl), rfl, rfl, .node (sh_right hxp hmet hroute hgood hs1) he2⟩
                      · skip
                        have hs1 : shape t.p.ns f (i :: met) x.p.left (k.lefts x.p.key) = none := none_of hl
                        refine At.skim 7 rfl rfl ?_
                        refine At.nil ?_
                        refine At.then ?_
                        refine At.ret ?_
                        exact At.results (Γr := []) (M := [[(b, .cells #[.int .i64 t.root, t.ns.val, .slice a t.ns.l.length c, .int .i64 n1] 97 (0, 0))], m2]) rfl (RVals.cons (RVal.tmp rfl) RVals.nil) (.tail _ (.tail _ (.head _))) (fun _ _ => trivial) (.cons_cons _ (.cons_cons _ (.cons _ (.cons _ (.cons _ (.refl _)))))) ⟨_, _, congrArg Value.bool (by rw [sh_left hxp hroute hgood hs1]; rfl), rfl, rfl, .no (sh_left hxp hroute hgood hs1)⟩
                    · skip
                      refine AtO.loud rfl (l_alloc t100) rfl (by rintro _ _ _ ⟨_, rfl, rfl, rfl⟩; exact ⟨fun _ h => h, .cons _ (.refl _)⟩) ?_
                      rintro _ _ _ ⟨b5, rfl, rfl, rfl⟩
                      refine AtO.loud rfl (l_alloc t100) rfl (by rintro _ _ _ ⟨_, rfl, rfl, rfl⟩; exact ⟨fun _ h => h, .cons _ (.cons _ (.cons_cons _ (.cons_cons _ (.cons_cons _ (.refl _)))))⟩) ?_
                      rintro _ _ _ ⟨b6, rfl, rfl, rfl⟩
                      refine AtO.loudNA rfl (l_store t100 rfl rfl (i := 0) rfl rfl rfl rfl) (by rintro _ _ _ ⟨rfl, rfl⟩; exact ⟨fun _ h => h, (.cons _ (.cons _ (.cons_cons _ (.cons_cons _ (.cons_cons _ (.refl _))))))⟩) ?_
                      rintro _ _ _ ⟨rfl, rfl⟩
                      refine AtO.done ?_
                      refine At.loudN (l_store t100 rfl rfl (i := 1) rfl rfl rfl rfl) ?_
                      rintro _ _ _ ⟨rfl, rfl⟩
                      refine At.nil ?_
                      refine At.then ?_
                      refine At.seq ?_
                      refine At.region ?_
                      refine At.fld s33 t3 rfl rfl rfl (Rd.loc (i := 2) rfl rfl) rfl rfl ?_
                      refine At.quiet (q_fieldAddr s100 rfl rfl rfl) rfl ?_
                      refine At.loudN (l_store t3 rfl rfl (i := 0) rfl rfl rfl rfl) ?_
                      rintro _ _ _ ⟨rfl, rfl⟩
                      refine At.quiet (q_fieldAddr s100 rfl rfl rfl) rfl ?_
                      refine At.loudN (l_store t4 rfl rfl (i := 0) rfl rfl rfl rfl) ?_
                      rintro _ _ _ ⟨rfl, rfl⟩
                      refine At.nil ?_
                      refine At.then ?_
                      refine At.seq ?_
                      refine At.region ?_
                      refine At.fld s33 t3 rfl rfl rfl (Rd.loc (i := 2) rfl rfl) rfl rfl ?_
                      refine At.quiet (q_fieldAddr s100 rfl rfl rfl) rfl ?_
                      refine At.loudN (l_store t3 rfl rfl (i := 1) rfl rfl rfl rfl) ?_
                      rintro _ _ _ ⟨rfl, rfl⟩
                      refine At.quiet (q_fieldAddr s100 rfl rfl rfl) rfl ?_
                      refine At.loudN (l_store t4 rfl rfl (i := 1) rfl rfl rfl rfl) ?_
                      rintro _ _ _ ⟨rfl, rfl⟩
                      refine At.nil ?_
                      refine At.then ?_
                      refine At.seq ?_
                      refine At.region ?_
                      refine At.skim 1 rfl rfl ?_
                      refine At.fld s33 t3 rfl rfl rfl (Rd.loc (i := 2) rfl rfl) rfl rfl ?_
                      refine At.quiet (q_loadS t100 rfl (RdS.loc (i := 0) rfl (m := 4) rfl) rfl) rfl ?_
                      refine At.front 4 rfl ?_
                      refine At.front 4 rfl ?_
                      refine At.call en68 rfl (ih (i :: met) x.left (k.lefts x.key) b a c _ (by omega) hO2) (fun _ h => ⟨h.2.2.2.1, h.2.2.2.2.1, trivial⟩) (List.Perm.refl _) rfl ?_
                      rintro _ _ _ ⟨n1, m2, rfl, rfl, rfl, he1⟩
                      refine At.skim 1 rfl rfl ?_
                      refine At.split (d := 132) rfl (fun hl => ?_) (fun hl => ?_)
                      · skip
                        obtain ⟨s1, hs1⟩ := Option.isSome_iff_exists.1 hl
                        obtain ⟨rfl, hO3⟩ := he1 s1 hs1
                        have hcm := count_more t.ns.l.length s1.places (i :: met)
                        refine At.skim 1 rfl rfl ?_
                        refine At.open rfl rfl ?_
                        refine At.quiet (q_fieldAddr s33 rfl rfl rfl) rfl ?_
                        refine At.open rfl rfl ?_
                        refine At.quiet (q_load t3 rfl (Rd.loc (i := 4) rfl rfl)) rfl ?_
                        refine At.open rfl rfl ?_
                        refine At.quiet (q_loadS t100 rfl (RdS.loc (i := 3) rfl (m := 4) rfl) rfl) rfl ?_
                        refine At.open rfl rfl ?_
                        refine At.front 1 rfl ?_
                        refine At.front 1 rfl ?_
                        refine At.call en68 rfl (ih (s1.places ++ i :: met) x.right (k.rights x.key) b a c _ (by omega) hO3) (fun _ h => ⟨h.2.2.2.1, h.2.2.2.2.1, trivial⟩) (List.Perm.refl _) rfl ?_
                        rintro _ _ _ ⟨n2, m3, rfl, rfl, rfl, he2⟩
                        refine At.skim 2 rfl rfl ?_
                        refine At.nil ?_
                        refine At.then ?_
                        refine At.ret ?_
                        exact At.results (Γr := []) (M := [[(b, .cells #[.int .i64 t.root, t.ns.val, .slice a t.ns.l.length c, .int .i64 n2] 97 (0, 0))], m3]) rfl (RVals.cons (RVal.tmp rfl) RVals.nil) (.tail _ (.tail _ (.head _))) (fun _ _ => trivial) (.cons_cons _ (.cons_cons _ (.cons _ (.cons _ (.cons _ (.refl _)))))) ⟨_, _, congrArg Value.bool (by rw [sh_right hxp hmet hroute hgood hs1, isSome_map]; rfl), rfl, rfl, .node (sh_right hxp hmet hroute hgood hs1) he2⟩
                      · skip
                        have hs1 : shape t.p.ns f (i :: met) x.p.left (k.lefts x.p.key) = none := none_of hl
                        refine At.skim 7 rfl rfl ?_
                        refine At.nil ?_
                        refine At.then ?_
                        refine At.ret ?_
                        exact At.results (Γr := []) (M := [[(b, .cells #[.int .i64 t.root, t.ns.val, .slice a t.ns.l.length c, .int .i64 n1] 97 (0, 0))], m2]) rfl (RVals.cons (RVal.tmp rfl) RVals.nil) (.tail _ (.tail _ (.head _))) (fun _ _ => trivial) (.cons_cons _ (.cons_cons _ (.cons _ (.cons _ (.cons _ (.refl _)))))) ⟨_, _, congrArg Value.bool (by rw [sh_left hxp hroute hgood hs1]; rfl), rfl, rfl, .no (sh_left hxp hroute hgood hs1)⟩
                · skip
                  have hgood : routeOk x.p k = true := by simp_all [routeOk, Nd.p]
                  have hfull := count_more
                  refine At.skim 7 rfl rfl ?_
                  refine At.nil ?_
                  refine At.then ?_
                  refine At.condF rfl ?_
                  refine At.skip ?_
                  refine At.then ?_
                  refine At.seq ?_
                  refine At.draw 5 (.q 0 (.q 1 (.t 2 (.o 3 (.o 4 (.e))) 3 (.o 2 (.o 4 (.e)))))) _ (List.Sublist.refl _) mixed (by kernel_rfl) rfl ?_
                  refine AtO.quiet rfl (q_loadS t100 rfl (RdS.blk (.tail _ (.head _)) (m := 4) rfl) rfl) rfl (Calm.then Post.calm) ?_
                  refine AtO.quiet rfl (q_loadS t100 rfl (RdS.blk (.tail _ (.head _)) (m := 4) rfl) rfl) rfl (Calm.then Post.calm) ?_
                  refine AtO.two ?_ ?_
                  · skip
                    refine AtO.loud rfl (l_alloc t100) rfl (by rintro _ _ _ ⟨_, rfl, rfl, rfl⟩; exact ⟨fun _ h => h, .cons _ (.refl _)⟩) ?_
                    rintro _ _ _ ⟨b7, rfl, rfl, rfl⟩
                    refine AtO.loud rfl (l_alloc t100) rfl (by rintro _ _ _ ⟨_, rfl, rfl, rfl⟩; exact ⟨fun _ h => h, .cons _ (.cons _ (.cons_cons _ (.cons_cons _ (.cons_cons _ (.refl _)))))⟩) ?_
                    rintro _ _ _ ⟨b8, rfl, rfl, rfl⟩
                    refine AtO.loudNA rfl (l_store t100 rfl rfl (i := 1) rfl rfl rfl rfl) (by rintro _ _ _ ⟨rfl, rfl⟩; exact ⟨fun _ h => h, (.cons _ (.cons _ (.cons_cons _ (.cons_cons _ (.cons_cons _ (.refl _))))))⟩) ?_
                    rintro _ _ _ ⟨rfl, rfl⟩
                    refine AtO.done ?_
                    refine At.loudN (l_store t100 rfl rfl (i := 0) rfl rfl rfl rfl) ?_
                    rintro _ _ _ ⟨rfl, rfl⟩
                    refine At.nil ?_
                    refine At.then ?_
                    refine At.seq ?_
                    refine At.region ?_
                    refine At.fld s33 t3 rfl rfl rfl (Rd.loc (i := 2) rfl rfl) rfl rfl ?_
                    refine At.quiet (q_fieldAddr s100 rfl rfl rfl) rfl ?_
                    refine At.loudN (l_store t3 rfl rfl (i := 1) rfl rfl rfl rfl) ?_
                    rintro _ _ _ ⟨rfl, rfl⟩
                    refine At.quiet (q_fieldAddr s100 rfl rfl rfl) rfl ?_
                    refine At.loudN (l_store t4 rfl rfl (i := 1) rfl rfl rfl rfl) ?_
                    rintro _ _ _ ⟨rfl, rfl⟩
                    refine At.nil ?_
                    refine At.then ?_
                    refine At.seq ?_
                    refine At.region ?_
                    refine At.fld s33 t3 rfl rfl rfl (Rd.loc (i := 2) rfl rfl) rfl rfl ?_
                    refine At.quiet (q_fieldAddr s100 rfl rfl rfl) rfl ?_
                    refine At.loudN (l_store t3 rfl rfl (i := 0) rfl rfl rfl rfl) ?_
                    rintro _ _ _ ⟨rfl, rfl⟩
                    refine At.quiet (q_fieldAddr s100 rfl rfl rfl) rfl ?_
                    refine At.loudN (l_store t4 rfl rfl (i := 0) rfl rfl rfl rfl) ?_
                    rintro _ _ _ ⟨rfl, rfl⟩
                    refine At.nil ?_
                    refine At.then ?_
                    refine At.seq ?_
                    refine At.region ?_
                    refine At.skim 1 rfl rfl ?_
                    refine At.fld s33 t3 rfl rfl rfl (Rd.loc (i := 2) rfl rfl) rfl rfl ?_
                    refine At.quiet (q_loadS t100 rfl (RdS.loc (i := 1) rfl (m := 4) rfl) rfl) rfl ?_
                    refine At.front 4 rfl ?_
                    refine At.front 4 rfl ?_
                    refine At.call en68 rfl (ih (i :: met) x.left (k.lefts x.key) b a c _ (by omega) hO2) (fun _ h => ⟨h.2.2.2.1, h.2.2.2.2.1, trivial⟩) (List.Perm.refl _) rfl ?_
                    rintro _ _ _ ⟨n1, m2, rfl, rfl, rfl, he1⟩
                    refine At.skim 1 rfl rfl ?_
                    refine At.split (d := 132) rfl (fun hl => ?_) (fun hl => ?_)
                    · skip
                      obtain ⟨s1, hs1⟩ := Option.isSome_iff_exists.1 hl
                      obtain ⟨rfl, hO3⟩ := he1 s1 hs1
                      have hcm := count_more t.ns.l.length s1.places (i :: met)
                      refine At.skim 1 rfl rfl ?_
                      refine At.open rfl rfl ?_
                      refine At.quiet (q_fieldAddr s33 rfl rfl rfl) rfl ?_
                      refine At.open rfl rfl ?_
                      refine At.quiet (q_load t3 rfl (Rd.loc (i := 4) rfl rfl)) rfl ?_
                      refine At.open rfl rfl ?_
                      refine At.quiet (q_loadS t100 rfl (RdS.loc (i := 2) rfl (m := 4) rfl) rfl) rfl ?_
                      refine At.open rfl rfl ?_
                      refine At.front 1 rfl ?_
                      refine At.front 1 rfl ?_
                      refine At.call en68 rfl (ih (s1.places ++ i :: met) x.right (k.rights x.key) b a c _ (by omega) hO3) (fun _ h => ⟨h.2.2.2.1, h.2.2.2.2.1, trivial⟩) (List.Perm.refl _) rfl ?_
                      rintro _ _ _ ⟨n2, m3, rfl, rfl, rfl, he2⟩
                      refine At.skim 2 rfl rfl ?_
                      refine At.nil ?_
                      refine At.then ?_
                      refine At.ret ?_
                      exact At.results (Γr := []) (M := [[(b, .cells #[.int .i64 t.root, t.ns.val, .slice a t.ns.l.length c, .int .i64 n2] 97 (0, 0))], m3]) rfl (RVals.cons (RVal.tmp rfl) RVals.nil) (.tail _ (.tail _ (.head _))) (fun _ _ => trivial) (.cons_cons _ (.cons_cons _ (.cons _ (.cons _ (.cons _ (.refl _)))))) ⟨_, _, congrArg Value.bool (by rw [sh_right hxp hmet hroute hgood hs1, isSome_map]; rfl), rfl, rfl, .node (sh_right hxp hmet hroute hgood hs1) he2⟩
                    · skip
                      have hs1 : shape t.p.ns f (i :: met) x.p.left (k.lefts x.p.key) = none := none_of hl
                      refine At.skim 7 rfl rfl ?_
                      refine At.nil ?_
                      refine At.then ?_
                      refine At.ret ?_
                      exact At.results (Γr := []) (M := [[(b, .cells #[.int .i64 t.root, t.ns.val, .slice a t.ns.l.length c, .int .i64 n1] 97 (0, 0))], m2]) rfl (RVals.cons (RVal.tmp rfl) RVals.nil) (.tail _ (.tail _ (.head _))) (fun _ _ => trivial) (.cons_cons _ (.cons_cons _ (.cons _ (.cons _ (.cons _ (.refl _)))))) ⟨_, _, congrArg Value.bool (by rw [sh_left hxp hroute hgood hs1]; rfl), rfl, rfl, .no (sh_left hxp hroute hgood hs1)⟩
                  · skip
                    refine AtO.loud rfl (l_alloc t100) rfl (by rintro _ _ _ ⟨_, rfl, rfl, rfl⟩; exact ⟨fun _ h => h, .cons _ (.refl _)⟩) ?_
                    rintro _ _ _ ⟨b9, rfl, rfl, rfl⟩
                    refine AtO.loud rfl (l_alloc t100) rfl (by rintro _ _ _ ⟨_, rfl, rfl, rfl⟩; exact ⟨fun _ h => h, .cons _ (.cons _ (.cons_cons _ (.cons_cons _ (.cons_cons _ (.refl _)))))⟩) ?_
                    rintro _ _ _ ⟨b10, rfl, rfl, rfl⟩
                    refine AtO.loudNA rfl (l_store t100 rfl rfl (i := 0) rfl rfl rfl rfl) (by rintro _ _ _ ⟨rfl, rfl⟩; exact ⟨fun _ h => h, (.cons _ (.cons _ (.cons_cons _ (.cons_cons _ (.cons_cons _ (.refl _))))))⟩) ?_
                    rintro _ _ _ ⟨rfl, rfl⟩
                    refine AtO.done ?_
                    refine At.loudN (l_store t100 rfl rfl (i := 1) rfl rfl rfl rfl) ?_
                    rintro _ _ _ ⟨rfl, rfl⟩
                    refine At.nil ?_
                    refine At.then ?_
                    refine At.seq ?_
                    refine At.region ?_
                    refine At.fld s33 t3 rfl rfl rfl (Rd.loc (i := 2) rfl rfl) rfl rfl ?_
                    refine At.quiet (q_fieldAddr s100 rfl rfl rfl) rfl ?_
                    refine At.loudN (l_store t3 rfl rfl (i := 0) rfl rfl rfl rfl) ?_
                    rintro _ _ _ ⟨rfl, rfl⟩
                    refine At.quiet (q_fieldAddr s100 rfl rfl rfl) rfl ?_
                    refine At.loudN (l_store t4 rfl rfl (i := 0) rfl rfl rfl rfl) ?_
                    rintro _ _ _ ⟨rfl, rfl⟩
                    refine At.nil ?_
                    refine At.then ?_
                    refine At.seq ?_
                    refine At.region ?_
                    refine At.fld s33 t3 rfl rfl rfl (Rd.loc (i := 2) rfl rfl) rfl rfl ?_
                    refine At.quiet (q_fieldAddr s100 rfl rfl rfl) rfl ?_
                    refine At.loudN (l_store t3 rfl rfl (i := 1) rfl rfl rfl rfl) ?_
                    rintro _ _ _ ⟨rfl, rfl⟩
                    refine At.quiet (q_fieldAddr s100 rfl rfl rfl) rfl ?_
                    refine At.loudN (l_store t4 rfl rfl (i := 1) rfl rfl rfl rfl) ?_
                    rintro _ _ _ ⟨rfl, rfl⟩
                    refine At.nil ?_
                    refine At.then ?_
                    refine At.seq ?_
                    refine At.region ?_
                    refine At.skim 1 rfl rfl ?_
                    refine At.fld s33 t3 rfl rfl rfl (Rd.loc (i := 2) rfl rfl) rfl rfl ?_
                    refine At.quiet (q_loadS t100 rfl (RdS.loc (i := 0) rfl (m := 4) rfl) rfl) rfl ?_
                    refine At.front 4 rfl ?_
                    refine At.front 4 rfl ?_
                    refine At.call en68 rfl (ih (i :: met) x.left (k.lefts x.key) b a c _ (by omega) hO2) (fun _ h => ⟨h.2.2.2.1, h.2.2.2.2.1, trivial⟩) (List.Perm.refl _) rfl ?_
                    rintro _ _ _ ⟨n1, m2, rfl, rfl, rfl, he1⟩
                    refine At.skim 1 rfl rfl ?_
                    refine At.split (d := 132) rfl (fun hl => ?_) (fun hl => ?_)
                    · skip
                      obtain ⟨s1, hs1⟩ := Option.isSome_iff_exists.1 hl
                      obtain ⟨rfl, hO3⟩ := he1 s1 hs1
                      have hcm := count_more t.ns.l.length s1.places (i :: met)
                      refine At.skim 1 rfl rfl ?_
                      refine At.open rfl rfl ?_
                      refine At.quiet (q_fieldAddr s33 rfl rfl rfl) rfl ?_
                      refine At.open rfl rfl ?_
                      refine At.quiet (q_load t3 rfl (Rd.loc (i := 4) rfl rfl)) rfl ?_
                      refine At.open rfl rfl ?_
                      refine At.quiet (q_loadS t100 rfl (RdS.loc (i := 3) rfl (m := 4) rfl) rfl) rfl ?_
                      refine At.open rfl rfl ?_
                      refine At.front 1 rfl ?_
                      refine At.front 1 rfl ?_
                      refine At.call en68 rfl (ih (s1.places ++ i :: met) x.right (k.rights x.key) b a c _ (by omega) hO3) (fun _ h => ⟨h.2.2.2.1, h.2.2.2.2.1, trivial⟩) (List.Perm.refl _) rfl ?_
                      rintro _ _ _ ⟨n2, m3, rfl, rfl, rfl, he2⟩
                      refine At.skim 2 rfl rfl ?_
                      refine At.nil ?_
                      refine At.then ?_
                      refine At.ret ?_
                      exact At.results (Γr := []) (M := [[(b, .cells #[.int .i64 t.root, t.ns.val, .slice a t.ns.l.length c, .int .i64 n2] 97 (0, 0))], m3]) rfl (RVals.cons (RVal.tmp rfl) RVals.nil) (.tail _ (.tail _ (.head _))) (fun _ _ => trivial) (.cons_cons _ (.cons_cons _ (.cons _ (.cons _ (.cons _ (.refl _)))))) ⟨_, _, congrArg Value.bool (by rw [sh_right hxp hmet hroute hgood hs1, isSome_map]; rfl), rfl, rfl, .node (sh_right hxp hmet hroute hgood hs1) he2⟩
                    · skip
                      have hs1 : shape t.p.ns f (i :: met) x.p.left (k.lefts x.p.key) = none := none_of hl
                      refine At.skim 7 rfl rfl ?_
                      refine At.nil ?_
                      refine At.then ?_
                      refine At.ret ?_
                      exact At.results (Γr := []) (M := [[(b, .cells #[.int .i64 t.root, t.ns.val, .slice a t.ns.l.length c, .int .i64 n1] 97 (0, 0))], m2]) rfl (RVals.cons (RVal.tmp rfl) RVals.nil) (.tail _ (.tail _ (.head _))) (fun _ _ => trivial) (.cons_cons _ (.cons_cons _ (.cons _ (.cons _ (.cons _ (.refl _)))))) ⟨_, _, congrArg Value.bool (by rw [sh_left hxp hroute hgood hs1]; rfl), rfl, rfl, .no (sh_left hxp hroute hgood hs1)⟩
theorem may68 (t : Tr) : ∀ f, May68 t f
  | 0 => fun _ _ _ _ _ _ _ h => absurd h (Nat.not_lt_zero _)
  | f + 1 => may68_step t f (may68 t f)
theorem may21 (t : Tr) : Con Try.prog 21 [t.val] [ndsP t.ns, psP t.ns.l] [] (fun v Γ M => v = .bool (mayT t.p).isSome ∧ Γ = [] ∧ M = []) := by
  refine Con.body 30 Try.func21 rfl Try.ntmps21 rfl fun X H₀ L₀ => ?_
  refine At.seq ?_
  refine At.region ?_
  refine At.loud (l_box rfl) rfl ?_
  rintro _ _ _ ⟨b1, rfl, rfl, rfl⟩
  refine At.freeze 0 (φ := blk b1 _) rfl (fun _ h => blk_def.2 ⟨_, _, h⟩) ?_
  refine At.skim 1 rfl rfl ?_
  refine At.nil ?_
  refine At.then ?_
  refine At.seq ?_
  refine At.seq ?_
  refine At.region ?_
  refine At.fld s24 t22 rfl rfl rfl (Rd.blk (.head _) rfl) rfl rfl ?_
  refine At.quiet (q_len Try.underlying22 rfl) rfl ?_
  refine At.skim 1 rfl rfl ?_
  refine At.nil ?_
  refine At.then ?_
  refine At.if rfl (fun hbig => ?_) (fun hbig => ?_)
  · skip
    refine At.seq ?_
    refine At.region ?_
    refine At.skim 1 rfl rfl ?_
    refine At.nil ?_
    refine At.then ?_
    refine At.ret ?_
    refine At.thenRet ?_
    exact At.results (Γr := []) (M := []) rfl (RVals.cons (RVal.tmp rfl) RVals.nil) (.tail _ (.head _)) (fun _ _ => trivial) (.refl _) ⟨congrArg Value.bool ((may_big (by simp [Tr.p]; omega)).symm), rfl, rfl⟩
  · skip
    refine At.skip ?_
    refine At.then ?_
    refine At.seq ?_
    refine At.draw 5 (.q 0 (.q 1 (.q 2 (.q 3 (.o 4 (.e)))))) _ (List.Sublist.refl _) mixed (by kernel_rfl) rfl ?_
    refine AtO.quiet rfl (q_loadS t24 rfl (RdS.blk (.head _) (m := 2) rfl) rfl) rfl (Calm.then Post.calm) ?_
    refine AtO.quiet rfl (q_fieldAddr s24 rfl rfl rfl) rfl (Calm.then Post.calm) ?_
    refine AtO.quiet rfl (q_load t22 rfl (Rd.blk (.head _) rfl)) rfl (Calm.then Post.calm) ?_
    refine AtO.quiet rfl (q_len Try.underlying22 rfl) rfl (Calm.then Post.calm) ?_
    refine AtO.loudA rfl (l_makeSlice (m := t.ns.l.length) Try.underlying38 t4 rfl rfl rfl rfl rfl (by omega) (by unfold maxLen; omega)) rfl (by rintro _ _ _ ⟨_, _, rfl, _, rfl, rfl⟩; exact ⟨fun _ h => h, .cons _ (.refl _)⟩) ?_
    rintro _ _ _ ⟨bm, m, rfl, hO, rfl, rfl⟩
    refine AtO.done ?_
    have hO2 : Own 4 1 ((bits t.ns.l.length []).map rowB) (some ⟨bm, 0, none⟩) t.ns.l.length m := by rw [bits_nil]; exact hO
    have hN : t.p.ns.length = t.ns.l.length := by simp [Tr.p]
    have hc0 : (bits t.ns.l.length []).count false < t.ns.l.length + 1 := by have := count_all (bits t.ns.l.length []); rw [bits_length] at this; omega
    have hc1 : (bits t.ns.l.length []).count true = 0 := List.count_eq_zero.2 (by simp [bits])
    refine At.quiet (q_build t97 s97 rfl rfl) rfl ?_
    refine At.loud (l_box rfl) rfl ?_
    rintro _ _ _ ⟨b2, rfl, rfl, rfl⟩
    refine At.skim 1 rfl rfl ?_
    refine At.nil ?_
    refine At.then ?_
    refine At.seq ?_
    refine At.pieces (L' := [(b2, .cells #[.int .i64 t.root, t.ns.val, .slice (some ⟨bm, 0, none⟩) t.ns.l.length t.ns.l.length, .int .i64 ((bits t.ns.l.length []).count true : Nat)] 97 (0, 0))] :: m :: L₀) (by rw [hc1]; rfl) ?_
    refine At.draw 13 (.q 0 (.q 1 (.q 2 (.q 3 (.o 4 (.q 5 (.q 6 (.q 7 (.q 8 (.q 9 (.q 10 (.q 11 (.q 12 (.e)))))))))))))) (L₀) (.cons _ (.cons _ (.refl _))) mixed (by kernel_rfl) rfl ?_
    refine AtO.quiet rfl (q_move rfl) rfl (Calm.then Post.calm) ?_
    refine AtO.quiet rfl (q_fieldAddr s24 rfl rfl rfl) rfl (Calm.then Post.calm) ?_
    refine AtO.quiet rfl (q_load t3 rfl (Rd.blk (.head _) rfl)) rfl (Calm.then Post.calm) ?_
    refine AtO.quiet rfl (q_build t100 s100 rfl rfl) rfl (Calm.then Post.calm) ?_
    refine AtO.front 1 rfl ?_
    refine AtO.front 1 rfl ?_
    refine AtO.callA rfl en68 rfl (may68 t _ [] t.root Kb.all _ _ _ _ hc0 hO2) (fun _ h => ⟨h.2.2.1, h.2.2.2.1, trivial⟩) (List.Perm.refl _) rfl (.refl _) ?_
    rintro _ _ _ ⟨n1, m2, rfl, rfl, rfl, he⟩
    refine AtO.quiet rfl (q_move rfl) rfl (Calm.then Post.calm) ?_
    refine AtO.split (d := 20) rfl (fun hm => ?_) (fun hm => ?_)
    · skip
      obtain ⟨s, hs⟩ := Option.isSome_iff_exists.1 hm
      obtain ⟨rfl, _⟩ := he s hs
      refine AtO.quietG rfl rfl rfl (q_move rfl) rfl (Calm.then Post.calm) ?_
      refine AtO.quietG rfl rfl rfl (q_nilCheck rfl) rfl (Calm.then Post.calm) ?_
      refine AtO.quietG rfl rfl rfl (q_fieldAddr s97 rfl rfl rfl) rfl (Calm.then Post.calm) ?_
      refine AtO.quietG rfl rfl rfl (q_load t3 rfl (Rd.loc (i := 0) rfl rfl)) rfl (Calm.then Post.calm) ?_
      refine AtO.quietG rfl rfl rfl (q_fieldAddr s24 rfl rfl rfl) rfl (Calm.then Post.calm) ?_
      refine AtO.quietG rfl rfl rfl (q_load t22 rfl (Rd.blk (.head _) rfl)) rfl (Calm.then Post.calm) ?_
      refine AtO.quietG rfl rfl rfl (q_len Try.underlying22 rfl) rfl (Calm.then Post.calm) ?_
      refine AtO.done ?_
      refine At.skim 3 rfl rfl ?_
      refine At.nil ?_
      refine At.then ?_
      refine At.ret ?_
      exact At.results (Γr := []) (M := []) rfl (RVals.cons (RVal.tmp rfl) RVals.nil) (.tail _ (.head _)) (fun _ _ => trivial) (.cons _ (.cons _ (.refl _))) ⟨congrArg Value.bool (by rw [may_some (by omega) (by rw [hN]; exact hs), hN]), rfl, rfl⟩
    · skip
      refine AtO.shut rfl rfl rfl rfl (Calm.then Post.calm) ?_
      refine AtO.shut rfl rfl rfl rfl (Calm.then Post.calm) ?_
      refine AtO.shut rfl rfl rfl rfl (Calm.then Post.calm) ?_
      refine AtO.shut rfl rfl rfl rfl (Calm.then Post.calm) ?_
      refine AtO.shut rfl rfl rfl rfl (Calm.then Post.calm) ?_
      refine AtO.shut rfl rfl rfl rfl (Calm.then Post.calm) ?_
      refine AtO.shut rfl rfl rfl rfl (Calm.then Post.calm) ?_
      refine AtO.done ?_
      refine At.skim 3 rfl rfl ?_
      refine At.nil ?_
      refine At.then ?_
      refine At.ret ?_
      exact At.results (Γr := []) (M := []) rfl (RVals.cons (RVal.tmp rfl) RVals.nil) (.tail _ (.head _)) (fun _ _ => trivial) (.cons _ (.cons _ (.refl _))) ⟨congrArg Value.bool ((may_none (by rw [hN]; exact hm)).symm), rfl, rfl⟩
theorem lay69_step (t : Tr) (hsm : smallP t.ns.l) (s : Sh) (ih : ∀ i l r, s = .node i l r → Lay69 t l ∧ Lay69 t r) : Lay69 t s := by
  intro at_ hH o a c Mo hO hb
  refine Con.body 50 Try.func69 rfl Try.ntmps69 rfl fun X H₀ L₀ => ?_
  obtain ⟨i, x, rfl, hx, hg, hc⟩ := hH.at
  refine At.know (prsP x.ps) (fun _ h => psP_get h.2.2.1 hx) ?_
  refine At.seq ?_
  refine At.region ?_
  refine At.loud (l_box rfl) rfl ?_
  rintro _ _ _ ⟨b1, rfl, rfl, rfl⟩
  refine At.freeze 0 (φ := blk b1 _) rfl (fun _ h => blk_def.2 ⟨_, _, h⟩) ?_
  refine At.skim 1 rfl rfl ?_
  refine At.nil ?_
  refine At.then ?_
  refine At.seq ?_
  refine At.region ?_
  refine At.skim 1 rfl rfl ?_
  refine At.quiet (q_len Try.underlying22 rfl) rfl ?_
  refine At.skim 1 rfl rfl ?_
  refine At.nil ?_
  refine At.then ?_
  refine At.seq ?_
  refine At.region ?_
  refine At.fld s24 t22 rfl rfl rfl (Rd.blk (.head _) rfl) rfl rfl ?_
  refine At.skim 1 rfl rfl ?_
  refine At.quiet (q_index Try.underlying22 t33 rfl (.tail _ (.tail _ (.tail _ (.head _)))) (by simp) rfl rfl (lt_of_get hx)) rfl ?_
  refine At.quiet (q_loadS t33 rfl (RdS.sl0 (.tail _ (.tail _ (.tail _ (.head _)))) (map_get hx)) rfl) rfl ?_
  refine At.call en73 rfl (copy73 x (hsm x (List.mem_of_getElem? hx))) (fun _ h => ⟨h.2.1, trivial⟩) (List.Perm.refl _) rfl ?_
  rintro _ _ _ ⟨s0, rfl, hs0, rfl, rfl⟩
  refine At.loud (l_alloc t33) rfl ?_
  rintro _ _ _ ⟨b2, rfl, rfl, rfl⟩
  refine At.loudN (l_store t33 rfl rfl (i := 0) rfl rfl rfl rfl) ?_
  rintro _ _ _ ⟨rfl, rfl⟩
  refine At.nil ?_
  refine At.then ?_
  refine At.seq ?_
  refine At.region ?_
  refine At.skim 1 rfl rfl ?_
  refine At.quiet (q_loadS t33 rfl (RdS.loc (i := 0) rfl (m := 6) rfl) rfl) rfl ?_
  refine At.loud (l_buildSlice Try.underlying22 t33 rfl rfl rfl rfl rfl) rfl ?_
  rintro _ _ _ ⟨b3, rfl, rfl, rfl⟩
  refine At.loud (l_append rfl Try.underlying22 t33 rfl rfl hO (by simp) (i := 2) rfl rfl (news := [rowN { x with ps := s0 }]) (by simp [rowN]) (RdS.loc (i := 0) rfl (m := 6) rfl) rfl rfl rfl (by omega) (by unfold maxLen; omega)) rfl ?_
  rintro _ _ _ ⟨a1, c1, M1, rfl, ow1, rfl, rfl⟩
  have hO1 : Own 33 6 ((o ++ { x with ps := s0 } :: []).map rowN) a1 c1 M1 := by simpa using ow1
  refine At.skim 1 rfl rfl ?_
  refine At.nil ?_
  refine At.then ?_
  refine At.seq ?_
  refine At.seq ?_
  refine At.region ?_
  refine At.fld s33 t4 rfl rfl rfl (Rd.loc (i := 1) rfl rfl) rfl rfl ?_
  refine At.nil ?_
  refine At.then ?_
  refine At.cond rfl (fun hroute => ?_) (fun hroute => ?_)
  · skip
    rcases hc with ⟨hc, _⟩ | ⟨hc, l, r, rfl, hl, hr⟩
    · exact absurd hroute (by simp [hc])
    obtain ⟨ih1, ih2⟩ := ih i l r rfl
    simp only [Sh.size] at hb
    refine At.seq ?_
    refine At.draw 5 (.q 0 (.q 1 (.q 2 (.q 3 (.q 4 (.e)))))) _ (List.Sublist.refl _) mixed (by kernel_rfl) rfl ?_
    refine AtO.quiet rfl (q_fieldAddr s33 rfl rfl rfl) rfl (Calm.then (Calm.then Post.calm)) ?_
    refine AtO.quiet rfl (q_load t3 rfl (Rd.loc (i := 1) rfl rfl)) rfl (Calm.then (Calm.then Post.calm)) ?_
    refine AtO.quiet rfl (q_fieldAddr s33 rfl rfl rfl) rfl (Calm.then (Calm.then Post.calm)) ?_
    refine AtO.quiet rfl (q_load t3 rfl (Rd.loc (i := 1) rfl rfl)) rfl (Calm.then (Calm.then Post.calm)) ?_
    refine AtO.quiet rfl (q_assign rfl) rfl (Calm.then (Calm.then Post.calm)) ?_
    refine AtO.done ?_
    refine At.skim 1 rfl rfl ?_
    refine At.nil ?_
    refine At.then ?_
    refine At.seq ?_
    refine At.region ?_
    refine At.skim 3 rfl rfl ?_
    refine At.quiet (q_len Try.underlying22 rfl) rfl ?_
    refine At.quiet (q_indexOwn Try.underlying22 t33 rfl hO1 (by simp) rfl rfl (by omega)) rfl ?_
    refine At.quiet (q_fieldAddr s33 rfl rfl rfl) rfl ?_
    refine At.loudN (l_storeOwn t3 rfl rfl hO1 (i := 2) rfl (get_mid o [] { x with ps := s0 }) rfl rfl rfl) ?_
    rintro _ _ _ ⟨Mow1, ow1, rfl, rfl⟩
    refine At.nil ?_
    refine At.then ?_
    refine At.seq ?_
    refine At.region ?_
    have hO2 : Own 33 6 ((o ++ [{ x with ps := s0, left := ((o.length + 1 : Nat) : Int) }]).map rowN) a1 c1 Mow1 := by rw [← set_mid o [] { x with ps := s0 }]; exact ow1
    refine At.say 2 (.slice a1 (o ++ [({ x with ps := s0, left := ((o.length + 1 : Nat) : Int) } : Nd)]).length c1) rfl (by simp) ?_
    refine At.quiet (q_loadS t24 rfl (RdS.blk (.tail _ (.head _)) (m := 2) rfl) rfl) rfl ?_
    refine At.skim 2 rfl rfl ?_
    refine At.front 2 rfl ?_
    refine At.call en69 rfl (ih1 x.left hl _ a1 c1 _ hO2 (by simp; omega)) (fun _ h => ⟨h.2.2.2.2.1, h.2.2.2.2.2.1, trivial⟩) (List.Perm.refl _) rfl ?_
    rintro _ _ _ ⟨o1, a2, c2, M2, rfl, rfl, rfl, hO3, he1⟩
    refine At.skim 1 rfl rfl ?_
    refine At.nil ?_
    refine At.then ?_
    refine At.seq ?_
    refine At.region ?_
    have hl1 : o1.length = l.size := by have := congrArg List.length he1; rwa [List.length_map, Sh.lay_length] at this
    rw [List.append_assoc, List.singleton_append] at hO3 ⊢
    refine At.skim 3 rfl rfl ?_
    refine At.quiet (q_len Try.underlying22 rfl) rfl ?_
    refine At.quiet (q_indexOwn Try.underlying22 t33 rfl hO3 (by simp) rfl rfl (by simp)) rfl ?_
    refine At.quiet (q_fieldAddr s33 rfl rfl rfl) rfl ?_
    refine At.loudN (l_storeOwn t3 rfl rfl hO3 (i := 0) rfl (get_mid o o1 _) rfl rfl rfl) ?_
    rintro _ _ _ ⟨Mow2, ow2, rfl, rfl⟩
    refine At.nil ?_
    refine At.then ?_
    refine At.region ?_
    have hO4 : Own 33 6 ((o ++ { x with ps := s0, left := ((o.length + 1 : Nat) : Int), right := (((o ++ { x with ps := s0, left := ((o.length + 1 : Nat) : Int) } :: o1).length : Nat) : Int) } :: o1).map rowN) a2 c2 Mow2 := by rw [← set_mid o o1]; exact ow2
    refine At.say 2 (.slice a2 (o ++ ({ x with ps := s0, left := ((o.length + 1 : Nat) : Int), right := (((o ++ { x with ps := s0, left := ((o.length + 1 : Nat) : Int) } :: o1).length : Nat) : Int) } : Nd) :: o1).length c2) rfl (by simp) ?_
    refine At.quiet (q_loadS t24 rfl (RdS.blk (.tail _ (.tail _ (.head _))) (m := 2) rfl) rfl) rfl ?_
    refine At.skim 2 rfl rfl ?_
    refine At.call en69 rfl (ih2 x.right hr _ a2 c2 _ hO4 (by simp; omega)) (fun _ h => ⟨h.2.2.2.2.2.1, h.2.2.2.2.2.2.1, trivial⟩) (List.Perm.refl _) rfl ?_
    rintro _ _ _ ⟨o2, a3, c3, M3, rfl, rfl, rfl, hO5, he2⟩
    refine At.skim 1 rfl rfl ?_
    refine At.nil ?_
    refine At.then ?_
    refine At.seq ?_
    refine At.region ?_
    have hl2 : o2.length = r.size := by have := congrArg List.length he2; rwa [List.length_map, Sh.lay_length] at this
    refine At.know (psP (({ x with ps := s0, left := ((o.length + 1 : Nat) : Int), right := (((o ++ { x with ps := s0, left := ((o.length + 1 : Nat) : Int) } :: o1).length : Nat) : Int) } : Nd) :: (o1 ++ o2))) (fun _ h => psP_cons (n := { x with ps := s0, left := ((o.length + 1 : Nat) : Int), right := (((o ++ { x with ps := s0, left := ((o.length + 1 : Nat) : Int) } :: o1).length : Nat) : Int) }) h.2.2.1 (psP_app h.2.1 h.1)) ?_
    refine At.skim 2 rfl rfl ?_
    refine At.nil ?_
    refine At.then ?_
    refine At.ret ?_
    exact At.results (Γr := [_]) (M := [M3]) rfl (RVals.cons (RVal.tmp rfl) RVals.nil) (.tail _ (.tail _ (.tail _ (.tail _ (.tail _ (.tail _ (.head _))))))) (fun _ h => ⟨h.1, trivial⟩) (.cons_cons _ (.cons _ (.cons _ (.refl _)))) (lay_node hO5 hg hl1 hs0 he1 he2 rfl (by simp [Nat.add_comm, Nat.add_left_comm]))
  · skip
    obtain rfl : s = .leaf i := by
      rcases hc with ⟨_, h⟩ | ⟨h, _⟩
      · exact h
      · rw [show x.route = false from hroute] at h; cases h
    refine At.know (psP [({ x with ps := s0 } : Nd)]) (fun _ h => psP_cons (n := { x with ps := s0 }) h.1 psP_nil) ?_
    refine At.skip ?_
    refine At.then ?_
    refine At.seq ?_
    refine At.region ?_
    refine At.skim 2 rfl rfl ?_
    refine At.nil ?_
    refine At.then ?_
    refine At.ret ?_
    exact At.results (Γr := [_]) (M := [M1]) rfl (RVals.cons (RVal.tmp rfl) RVals.nil) (.tail _ (.tail _ (.tail _ (.tail _ (.head _))))) (fun _ h => ⟨h.1, trivial⟩) (.cons _ (.cons _ (.cons_cons _ (.refl _)))) ⟨[{ x with ps := s0 }], a1, c1, M1, by simp [resVal], rfl, rfl, hO1, by rw [Sh.lay, hg]; simp [Nd.p, hs0]⟩
theorem lay69 (t : Tr) (hsm : smallP t.ns.l) (s : Sh) : Lay69 t s := by
  induction s with
  | leaf i => exact lay69_step t hsm _ fun _ _ _ h => by cases h
  | node i l r h1 h2 => exact lay69_step t hsm _ fun _ _ _ h => by cases h; exact ⟨h1, h2⟩
end Go.Proofs.Ytmkodknmknfdkaa
set_option linter.unusedVariables false
set_option linter.unusedSimpArgs false
namespace Go.Proofs.Ytmkodknmknfdkaa
open E
set_option maxRecDepth 4000
theorem t37 : tRow Try.prog 37 = some (true, 1, 24, .slice none 0 0) := by kernel_rfl
theorem t40 : tRow Try.prog 40 = some (false, 3, 56, .agg #[.int .i64 0, .slice none 0 0, .slice none 0 0]) := by kernel_rfl
theorem s40 : sRow Try.prog 40 = some [(0, 1, true), (1, 1, true), (2, 1, true)] := by kernel_rfl
theorem en21 : Enters Try.prog 21 := Enters.mk' Try.func21 rfl rfl
theorem en25 : Enters Try.prog 25 := Enters.mk' Try.func25 rfl rfl
theorem en28 : Enters Try.prog 28 := Enters.mk' Try.func28 rfl rfl
theorem en70 : Enters Try.prog 70 := Enters.mk' Try.func70 rfl rfl
theorem plain25 (t : Tr) (hsm : smallP t.ns.l) : Con Try.prog 25 [t.val] [ndsP t.ns, psP t.ns.l] [] (PlainEnd t) := by
  refine Con.body 13 Try.func25 rfl Try.ntmps25 rfl fun X H₀ L₀ => ?_
  refine At.seq ?_
  refine At.region ?_
  refine At.loud (l_box rfl) rfl ?_
  rintro _ _ _ ⟨b1, rfl, rfl, rfl⟩
  refine At.freeze 0 (φ := blk b1 _) rfl (fun _ h => blk_def.2 ⟨_, _, h⟩) ?_
  refine At.loud (l_alloc t24) rfl ?_
  rintro _ _ _ ⟨b2, rfl, rfl, rfl⟩
  refine At.skim 1 rfl rfl ?_
  refine At.nil ?_
  refine At.then ?_
  refine At.seq ?_
  refine At.seq ?_
  refine At.region ?_
  refine At.quiet (q_loadS t24 rfl (RdS.blk (.head _) (m := 2) rfl) rfl) rfl ?_
  refine At.call en21 rfl (may21 _) (fun _ h => ⟨h.2.2.1, h.2.2.2.1, trivial⟩) (List.Perm.refl _) rfl ?_
  rintro _ _ _ ⟨rfl, rfl, rfl⟩
  refine At.skim 1 rfl rfl ?_
  refine At.nil ?_
  refine At.then ?_
  refine At.cond rfl (fun hm => ?_) (fun hm => ?_)
  · skip
    refine At.nilSeg ?_
    refine At.know (psP []) (fun _ h => psP_nil) ?_
    refine At.seq ?_
    refine At.region ?_
    refine At.quiet (q_build t24 s24 rfl rfl) rfl ?_
    refine At.loudN (l_store t24 rfl rfl (i := 1) rfl rfl rfl rfl) ?_
    rintro _ _ _ ⟨rfl, rfl⟩
    refine At.skim 1 rfl rfl ?_
    refine At.nil ?_
    refine At.then ?_
    refine At.ret ?_
    refine At.thenRet ?_
    exact At.results (Γr := [psP []]) (M := [[]]) rfl (RVals.cons (RVal.cellS rfl t24 (RdS.loc (i := 1) rfl (m := 2) rfl) rfl) (RVals.cons (RVal.tmp rfl) RVals.nil)) (.tail _ (.tail _ (.head _))) (fun _ h => ⟨h.1, trivial⟩) (.cons_cons _ (.cons _ (.refl _))) ⟨⟨0, ⟨none, 0, []⟩⟩, [], by rw [not_t hm]; rfl, rfl, rfl, Own.nil _ _, by rw [plainD, plainT, none_of (not_t hm)]; rfl⟩
  · skip
    obtain ⟨s, hs⟩ := Option.isSome_iff_exists.1 (not_f hm)
    have hg := good_of hs
    have hsz : s.size ≤ 2000 := by have h1 := hg.size; have h2 := hg.few; omega
    refine At.nilSeg ?_
    refine At.skip ?_
    refine At.then ?_
    refine At.seq ?_
    refine At.region ?_
    refine At.quiet (q_loadS t24 rfl (RdS.blk (.head _) (m := 2) rfl) rfl) rfl ?_
    refine At.fld s24 t3 rfl rfl rfl (Rd.blk (.head _) rfl) rfl rfl ?_
    refine At.call en69 rfl (lay69 t hsm s t.root hg.hangs [] none 0 [] (Own.nil _ _) (by simp; omega)) (fun _ h => ⟨h.2.2.1, h.2.2.2.1, trivial⟩) (List.Perm.refl _) rfl ?_
    rintro _ _ _ ⟨o1, a1, c1, M1, rfl, rfl, rfl, hO, he⟩
    refine At.quiet (q_build t24 s24 rfl rfl) rfl ?_
    refine At.loudN (l_store t24 rfl rfl (i := 1) rfl rfl rfl rfl) ?_
    rintro _ _ _ ⟨rfl, rfl⟩
    refine At.skim 1 rfl rfl ?_
    refine At.nil ?_
    refine At.then ?_
    refine At.ret ?_
    exact At.results (Γr := [psP o1]) (M := [M1]) rfl (RVals.cons (RVal.cellS rfl t24 (RdS.loc (i := 1) rfl (m := 2) rfl) rfl) (RVals.cons (RVal.tmp rfl) RVals.nil)) (.tail _ (.tail _ (.head _))) (fun _ h => ⟨h.1, trivial⟩) (.cons_cons _ (.cons _ (.refl _))) ⟨⟨0, ⟨a1, c1, o1⟩⟩, M1, by rw [not_f hm]; rfl, rfl, rfl, hO, plain_some hs he⟩
theorem leaves70_step (t : Tr) (s : Sh) (ih : ∀ i l r, s = .node i l r → Lv 70 t l ∧ Lv 70 t r) : Lv 70 t s := by
  intro at_ hH o a c Mo hO hb
  refine Con.body 29 Try.func70 rfl Try.ntmps70 rfl fun X H₀ L₀ => ?_
  obtain ⟨i, x, rfl, hx, hg, hc⟩ := hH.at
  refine At.know (prsP x.ps) (fun _ h => psP_get h.2.2.1 hx) ?_
  refine At.seq ?_
  refine At.region ?_
  refine At.loud (l_box rfl) rfl ?_
  rintro _ _ _ ⟨b1, rfl, rfl, rfl⟩
  refine At.freeze 0 (φ := blk b1 _) rfl (fun _ h => blk_def.2 ⟨_, _, h⟩) ?_
  refine At.skim 1 rfl rfl ?_
  refine At.nil ?_
  refine At.then ?_
  refine At.seq ?_
  refine At.region ?_
  refine At.fld s24 t22 rfl rfl rfl (Rd.blk (.head _) rfl) rfl rfl ?_
  refine At.skim 1 rfl rfl ?_
  refine At.quiet (q_index Try.underlying22 t33 rfl (.tail _ (.tail _ (.tail _ (.head _)))) (by simp) rfl rfl (lt_of_get hx)) rfl ?_
  refine At.quiet (q_loadS t33 rfl (RdS.sl0 (.tail _ (.tail _ (.tail _ (.head _)))) (map_get hx)) rfl) rfl ?_
  refine At.loud (l_alloc t33) rfl ?_
  rintro _ _ _ ⟨b2, rfl, rfl, rfl⟩
  refine At.loudN (l_store t33 rfl rfl (i := 0) rfl rfl rfl rfl) ?_
  rintro _ _ _ ⟨rfl, rfl⟩
  refine At.nil ?_
  refine At.then ?_
  refine At.seq ?_
  refine At.seq ?_
  refine At.region ?_
  refine At.fld s33 t4 rfl rfl rfl (Rd.loc (i := 0) rfl rfl) rfl rfl ?_
  refine At.skim 1 rfl rfl ?_
  refine At.nil ?_
  refine At.then ?_
  refine At.cond rfl (fun hr => ?_) (fun hr => ?_)
  · skip
    obtain rfl : s = .leaf i := by
      rcases hc with ⟨_, h⟩ | ⟨h, _⟩
      · exact h
      · rw [show x.route = false from not_t hr] at h; cases h
    simp only [Sh.size] at hb
    refine At.seq ?_
    refine At.region ?_
    refine At.skim 2 rfl rfl ?_
    refine At.loud (l_buildSlice Try.underlying37 t3 rfl rfl rfl rfl rfl) rfl ?_
    rintro _ _ _ ⟨b3, rfl, rfl, rfl⟩
    refine At.loud (l_append rfl Try.underlying37 t3 rfl rfl hO (by simp) (i := 2) rfl rfl (news := [rowI (i : Int)]) (by simp [rowI]) (RdS.loc (i := 0) rfl (m := 1) rfl) rfl rfl rfl (by omega) (by unfold maxLen; omega)) rfl ?_
    rintro _ _ _ ⟨a1, c1, M1, rfl, ow1, rfl, rfl⟩
    refine At.skim 1 rfl rfl ?_
    refine At.nil ?_
    refine At.then ?_
    refine At.ret ?_
    refine At.thenRet ?_
    exact At.results (Γr := []) (M := [M1]) rfl (RVals.cons (RVal.tmp rfl) RVals.nil) (.tail _ (.tail _ (.head _))) (fun _ _ => trivial) (.cons _ (.cons _ (.cons_cons _ (.refl _)))) ⟨a1, c1, M1, by simp [Sh.leaves, toI, resVal], rfl, rfl, by simpa [Sh.leaves, toI] using ow1⟩
  · skip
    obtain ⟨l, r, rfl, hl, hr2⟩ : ∃ l r, s = .node i l r ∧ Hangs t.p.ns l x.left ∧ Hangs t.p.ns r x.right := by
      rcases hc with ⟨h, _⟩ | ⟨_, h⟩
      · rw [show x.route = true from not_f hr] at h; cases h
      · exact h
    obtain ⟨ih1, ih2⟩ := ih i l r rfl
    simp only [Sh.size] at hb
    have hll := leaves_len l
    refine At.skip ?_
    refine At.then ?_
    refine At.seq ?_
    refine At.draw 8 (.q 0 (.q 1 (.q 2 (.q 3 (.q 4 (.q 5 (.q 6 (.o 7 (.e))))))))) (_ :: L₀) (.cons_cons _ (.cons _ (.refl _))) mixed (by kernel_rfl) rfl ?_
    refine AtO.quiet rfl (q_loadS t24 rfl (RdS.blk (.head _) (m := 2) rfl) rfl) rfl (Calm.then Post.calm) ?_
    refine AtO.quiet rfl (q_fieldAddr s33 rfl rfl rfl) rfl (Calm.then Post.calm) ?_
    refine AtO.quiet rfl (q_load t3 rfl (Rd.loc (i := 0) rfl rfl)) rfl (Calm.then Post.calm) ?_
    refine AtO.quiet rfl (q_loadS t24 rfl (RdS.blk (.head _) (m := 2) rfl) rfl) rfl (Calm.then Post.calm) ?_
    refine AtO.quiet rfl (q_fieldAddr s33 rfl rfl rfl) rfl (Calm.then Post.calm) ?_
    refine AtO.quiet rfl (q_load t3 rfl (Rd.loc (i := 0) rfl rfl)) rfl (Calm.then Post.calm) ?_
    refine AtO.quiet rfl (q_move rfl) rfl (Calm.then Post.calm) ?_
    refine AtO.front 1 rfl ?_
    refine AtO.callA rfl en70 rfl (ih1 x.left hl o a c _ hO (by omega)) (fun _ h => ⟨h.2.2.2.1, h.2.2.2.2.1, trivial⟩) (List.Perm.refl _) rfl (.refl _) ?_
    rintro _ _ _ ⟨a1, c1, M1, rfl, rfl, rfl, hO1⟩
    refine AtO.done ?_
    refine At.call en70 rfl (ih2 x.right hr2 _ a1 c1 _ hO1 (by simp [toI]; omega)) (fun _ h => ⟨h.2.2.2.1, h.2.2.2.2.1, trivial⟩) (List.Perm.refl _) rfl ?_
    rintro _ _ _ ⟨a2, c2, M2, rfl, rfl, rfl, hO2⟩
    refine At.skim 1 rfl rfl ?_
    refine At.nil ?_
    refine At.then ?_
    refine At.ret ?_
    exact At.results (Γr := []) (M := [M2]) rfl (RVals.cons (RVal.tmp rfl) RVals.nil) (.tail _ (.tail _ (.head _))) (fun _ _ => trivial) (.cons_cons _ (.cons _ (.refl _))) ⟨a2, c2, M2, by simp only [Sh.leaves, toI_app, List.append_assoc]; rfl, rfl, rfl, by simpa only [Sh.leaves, toI_app, List.append_assoc] using hO2⟩
theorem leaves70 (t : Tr) (s : Sh) : Lv 70 t s := by
  induction s with
  | leaf i => exact leaves70_step t _ fun _ _ _ h => by cases h
  | node i l r h1 h2 => exact leaves70_step t _ fun _ _ _ h => by cases h; exact ⟨h1, h2⟩
theorem find26 (t : Tr) (key : Int) : Con Try.prog 26 [t.val, .int .i64 key] [ndsP t.ns, psP t.ns.l] [] (WayEnd t key) := by
  refine Con.body 54 Try.func26 rfl Try.ntmps26 rfl fun X H₀ L₀ => ?_
  refine At.lenOf (hs := (.tail _ (.head _))) fun hlen => ?_
  rw [List.length_map] at hlen
  refine At.seq ?_
  refine At.region ?_
  refine At.loud (l_box rfl) rfl ?_
  rintro _ _ _ ⟨b1, rfl, rfl, rfl⟩
  refine At.freeze 0 (φ := blk b1 _) rfl (fun _ h => blk_def.2 ⟨_, _, h⟩) ?_
  refine At.loud (l_alloc t40) rfl ?_
  rintro _ _ _ ⟨b2, rfl, rfl, rfl⟩
  refine At.skim 1 rfl rfl ?_
  refine At.nil ?_
  refine At.then ?_
  refine At.seq ?_
  refine At.seq ?_
  refine At.region ?_
  refine At.quiet (q_loadS t24 rfl (RdS.blk (.head _) (m := 2) rfl) rfl) rfl ?_
  refine At.call en21 rfl (may21 _) (fun _ h => ⟨h.2.2.1, h.2.2.2.1, trivial⟩) (List.Perm.refl _) rfl ?_
  rintro _ _ _ ⟨rfl, rfl, rfl⟩
  refine At.skim 1 rfl rfl ?_
  refine At.nil ?_
  refine At.then ?_
  refine At.cond rfl (fun hm => ?_) (fun hm => ?_)
  · skip
    refine At.know (intsP ⟨none, 0, []⟩) (fun _ h => sl_nil _ _ _ (Nat.zero_le _)) ?_
    refine At.know (boolsP ⟨none, 0, []⟩) (fun _ h => sl_nil _ _ _ (Nat.zero_le _)) ?_
    refine At.seq ?_
    refine At.region ?_
    refine At.quiet (q_build t40 s40 rfl rfl) rfl ?_
    refine At.loudN (l_store t40 rfl rfl (i := 0) rfl rfl rfl rfl) ?_
    rintro _ _ _ ⟨rfl, rfl⟩
    refine At.skim 1 rfl rfl ?_
    refine At.nil ?_
    refine At.then ?_
    refine At.ret ?_
    refine At.thenRet ?_
    exact At.results (Γr := [intsP ⟨none, 0, []⟩, boolsP ⟨none, 0, []⟩]) (M := []) rfl (RVals.cons (RVal.cellS rfl t40 (RdS.loc (i := 0) rfl (m := 3) rfl) rfl) (RVals.cons (RVal.tmp rfl) RVals.nil)) (.tail _ (.tail _ (.tail _ (.head _)))) (fun _ h => ⟨h.2.1, h.1, trivial⟩) (.cons _ (.refl _)) ⟨⟨none, 0, []⟩, ⟨none, 0, []⟩, by rw [not_t hm, findD, findT, none_of (not_t hm)]; rfl, rfl, rfl, by rw [findD, findT, none_of (not_t hm)]; rfl, by rw [findD, findT, none_of (not_t hm)]; rfl⟩
  · skip
    obtain ⟨s, hs⟩ := Option.isSome_iff_exists.1 (not_f hm)
    have hg := good_of hs
    have hsz : s.size ≤ 2000 := by have h1 := hg.size; have h2 := hg.few; omega
    refine At.nilSeg ?_
    refine At.nilSeg ?_
    refine At.skip ?_
    refine At.then ?_
    refine At.seq ?_
    refine At.region ?_
    refine At.fld s24 t3 rfl rfl rfl (Rd.blk (.head _) rfl) rfl rfl ?_
    refine At.quiet (q_build t40 s40 rfl rfl) rfl ?_
    refine At.loud (l_alloc t40) rfl ?_
    rintro _ _ _ ⟨b3, rfl, rfl, rfl⟩
    refine At.loudN (l_store t40 rfl rfl (i := 0) rfl rfl rfl rfl) ?_
    rintro _ _ _ ⟨rfl, rfl⟩
    refine At.nil ?_
    refine At.then ?_
    refine At.seq ?_
    refine At.block ?_
    refine At.front 2 rfl ?_
    refine At.front 2 rfl ?_
    refine At.front 2 rfl ?_
    refine At.loopK (ι := Sh × Int × (Nat × List Int × Option Addr × Nat × Seg) × (Nat × List Bool × Option Addr × Nat × Seg)) [7, 8, 16, 17, 18, 19, 20, 21, 22, 23, 24, 25, 26, 27, 28, 29, 30, 31, 32, 33, 34, 35, 36, 37, 38, 39, 40, 41, 42, 43, 44, 45, 46, 47, 48, 49, 50, 51, 52] (fun ⟨s1, at_, ⟨n1, us, a1, c1, M1⟩, ⟨n2, rs, a2, c2, M2⟩⟩ => []) (fun ⟨s1, at_, ⟨n1, us, a1, c1, M1⟩, ⟨n2, rs, a2, c2, M2⟩⟩ => []) (fun ⟨s1, at_, ⟨n1, us, a1, c1, M1⟩, ⟨n2, rs, a2, c2, M2⟩⟩ => [[(b3, .cells #[.int .i64 at_, .slice a1 n1 c1, .slice a2 n2 c2] 40 (0, 0))], M1, M2]) _ (fun ⟨s1, at_, ⟨n1, us, a1, c1, M1⟩, ⟨n2, rs, a2, c2, M2⟩⟩ => Way t key s1 at_ us rs ∧ Own 3 1 (us.map rowI) a1 c1 M1 ∧ Own 4 1 (rs.map rowB) a2 c2 M2 ∧ us.length + s1.size ≤ 2000 ∧ rs.length = us.length ∧ n1 = us.length ∧ n2 = rs.length) (fun ⟨s1, at_, ⟨n1, us, a1, c1, M1⟩, ⟨n2, rs, a2, c2, M2⟩⟩ => s1.size) (s, t.root, (0, [], none, 0, []), (0, [], none, 0, [])) ⟨Way.start key hs, Own.nil _ _, Own.nil _ _, by simpa using hsz, rfl, rfl, rfl⟩ trivial (fun _ _ => trivial) (.cons_cons _ (.cons_cons _ (.cons_cons _ (.refl _)))) ?_
    intro i0 hI0
    obtain ⟨s1, at_, ⟨n1, us, a1, c1, M1⟩, ⟨n2, rs, a2, c2, M2⟩⟩ := i0
    obtain ⟨hW, hO1, hO2, hsz1, hrl, hn1, hn2⟩ := hI0
    obtain ⟨i, x, rfl, hx, hxg, hc⟩ := hW.hangs.at
    refine At.know (prsP x.ps) (fun _ h => psP_get h.2.2.2.1 hx) ?_
    refine At.seq ?_
    refine At.seq ?_
    refine At.region ?_
    refine At.fld s24 t22 rfl rfl rfl (Rd.blk (.tail _ (.head _)) rfl) rfl rfl ?_
    refine At.fld s40 t3 rfl rfl rfl (Rd.loc (i := 0) rfl rfl) rfl rfl ?_
    refine At.quiet (q_index Try.underlying22 t33 rfl (.tail _ (.tail _ (.tail _ (.head _)))) (by simp) rfl rfl (lt_of_get hx)) rfl ?_
    refine At.fld s33 t4 rfl rfl rfl (Rd.sl (.tail _ (.tail _ (.tail _ (.head _)))) (map_get hx) rfl) rfl rfl ?_
    refine At.nil ?_
    refine At.then ?_
    refine At.cond rfl (fun hr => ?_) (fun hr => ?_)
    · skip
      obtain ⟨l, r, rfl, hl, hr2⟩ : ∃ l r, s1 = .node i l r ∧ Hangs t.p.ns l x.left ∧ Hangs t.p.ns r x.right := by
        rcases hc with ⟨h, _⟩ | ⟨_, h⟩
        · rw [show x.route = true from hr] at h; cases h
        · exact h
      simp only [Sh.size] at hsz1
      have hst := hW.step hxg hl hr2
      refine At.skip ?_
      refine At.then ?_
      refine At.block ?_
      refine At.seq ?_
      refine At.region ?_
      refine At.fld s24 t22 rfl rfl rfl (Rd.blk (.tail _ (.head _)) rfl) rfl rfl ?_
      refine At.fld s40 t3 rfl rfl rfl (Rd.loc (i := 0) rfl rfl) rfl rfl ?_
      refine At.quiet (q_index Try.underlying22 t33 rfl (.tail _ (.tail _ (.tail _ (.head _)))) (by simp) rfl rfl (lt_of_get hx)) rfl ?_
      refine At.quiet (q_loadS t33 rfl (RdS.sl0 (.tail _ (.tail _ (.tail _ (.head _)))) (map_get hx)) rfl) rfl ?_
      refine At.loud (l_alloc t33) rfl ?_
      rintro _ _ _ ⟨b4, rfl, rfl, rfl⟩
      refine At.loudN (l_store t33 rfl rfl (i := 0) rfl rfl rfl rfl) ?_
      rintro _ _ _ ⟨rfl, rfl⟩
      refine At.nil ?_
      refine At.then ?_
      refine At.seq ?_
      refine At.region ?_
      refine At.skim 1 rfl rfl ?_
      refine At.fld s33 t3 rfl rfl rfl (Rd.loc (i := 0) rfl rfl) rfl rfl ?_
      refine At.skim 1 rfl rfl ?_
      refine At.skim 1 rfl rfl ?_
      refine At.nil ?_
      refine At.then ?_
      refine At.front 3 rfl ?_
      refine At.front 3 rfl ?_
      refine At.front 3 rfl ?_
      refine At.cutD (ι := (Option Addr × Nat × Seg) × (Option Addr × Nat × Seg)) (.s (.s (.s .z))) [33, 34, 35, 36, 37, 38, 39, 40, 41, 42, 43, 44, 45] (fun ⟨⟨a3, c3, M3⟩, ⟨a4, c4, M4⟩⟩ => []) (fun ⟨⟨a3, c3, M3⟩, ⟨a4, c4, M4⟩⟩ => []) (fun ⟨⟨a3, c3, M3⟩, ⟨a4, c4, M4⟩⟩ => [[(b3, .cells #[.int .i64 (i : Int), .slice a3 (n1 + 1) c3, .slice a4 (n2 + 1) c4] 40 (0, 0))], M3, M4]) (fun ⟨⟨a3, c3, M3⟩, ⟨a4, c4, M4⟩⟩ => Own 3 1 ((us ++ [(i : Int)]).map rowI) a3 c3 M3 ∧ Own 4 1 ((rs ++ [decide (x.key ≤ key)]).map rowB) a4 c4 M4) ?_ ?_
      · skip
        refine At.draw 12 (.q 0 (.q 1 (.q 2 (.q 3 (.q 6 (.q 7 (.q 8 (.t 4 (.t 5 (.q 11 (.o 9 (.o 10 (.e)))) 9 (.o 5 (.q 11 (.o 10 (.e))))) 9 (.o 4 (.o 5 (.q 11 (.o 10 (.e))))))))))))) (_ :: _ :: _ :: L₀) (.cons_cons _ (.cons _ (.cons _ (.cons_cons _ (.cons_cons _ (.refl _)))))) mixed (by kernel_rfl) rfl ?_
        refine AtO.quiet rfl (q_fieldAddr s40 rfl rfl rfl) rfl (Calm.then (Calm.inBlock (Calm.then (Calm.inBlock (Calm.then Post.calm))))) ?_
        refine AtO.quiet rfl (q_load t37 rfl (Rd.loc (i := 0) rfl rfl)) rfl (Calm.then (Calm.inBlock (Calm.then (Calm.inBlock (Calm.then Post.calm))))) ?_
        refine AtO.quiet rfl (q_fieldAddr s40 rfl rfl rfl) rfl (Calm.then (Calm.inBlock (Calm.then (Calm.inBlock (Calm.then Post.calm))))) ?_
        refine AtO.quiet rfl (q_load t3 rfl (Rd.loc (i := 0) rfl rfl)) rfl (Calm.then (Calm.inBlock (Calm.then (Calm.inBlock (Calm.then Post.calm))))) ?_
        refine AtO.quiet rfl (q_fieldAddr s40 rfl rfl rfl) rfl (Calm.then (Calm.inBlock (Calm.then (Calm.inBlock (Calm.then Post.calm))))) ?_
        refine AtO.quiet rfl (q_load t38 rfl (Rd.loc (i := 0) rfl rfl)) rfl (Calm.then (Calm.inBlock (Calm.then (Calm.inBlock (Calm.then Post.calm))))) ?_
        refine AtO.quiet rfl (q_move rfl) rfl (Calm.then (Calm.inBlock (Calm.then (Calm.inBlock (Calm.then Post.calm))))) ?_
        refine AtO.two ?_ ?_
        · skip
          refine AtO.loud rfl (l_buildSlice Try.underlying37 t3 rfl rfl rfl rfl rfl) rfl (by rintro _ _ _ ⟨_, rfl, rfl, rfl⟩; exact ⟨fun _ h => h, .cons _ (.cons_cons _ (.cons _ (.cons _ (.cons_cons _ (.cons_cons _ (.refl _))))))⟩) ?_
          rintro _ _ _ ⟨b5, rfl, rfl, rfl⟩
          refine AtO.two ?_ ?_
          · skip
            refine AtO.loud rfl (l_append rfl Try.underlying37 t3 rfl rfl hO1 (by simp; omega) (i := 2) rfl rfl (news := [rowI (i : Int)]) (by simp [rowI]) (RdS.loc (i := 0) rfl (m := 1) rfl) rfl rfl rfl (by omega) (by unfold maxLen; omega)) rfl (by rintro _ _ _ ⟨_, _, _, rfl, _, rfl, rfl⟩; exact ⟨fun _ h => h, (.cons _ (.cons_cons _ (.cons _ (.cons _ (.cons_cons _ (.cons_cons _ (.refl _)))))))⟩) ?_
            rintro _ _ _ ⟨a3, c3, M3, rfl, ow3, rfl, rfl⟩
            refine AtO.quiet rfl (q_fieldAddr s40 rfl rfl rfl) rfl (Calm.then (Calm.inBlock (Calm.then (Calm.inBlock (Calm.then Post.calm))))) ?_
            refine AtO.loud rfl (l_buildSlice Try.underlying38 t4 rfl rfl rfl rfl rfl) rfl (by rintro _ _ _ ⟨_, rfl, rfl, rfl⟩; exact ⟨fun _ h => h, .cons _ (.cons _ (.cons_cons _ (.cons _ (.cons _ (.cons_cons _ (.cons_cons _ (.refl _)))))))⟩) ?_
            rintro _ _ _ ⟨b6, rfl, rfl, rfl⟩
            refine AtO.loudA rfl (l_append rfl Try.underlying38 t4 rfl rfl hO2 (by simp; omega) (i := 4) rfl rfl (news := [rowB (decide (x.key ≤ key))]) (by simp [rowB]) (RdS.loc (i := 0) rfl (m := 1) rfl) rfl rfl rfl (by omega) (by unfold maxLen; omega)) rfl (by rintro _ _ _ ⟨_, _, _, rfl, _, rfl, rfl⟩; exact ⟨fun _ h => h, (.cons _ (.cons _ (.cons_cons _ (.cons _ (.cons _ (.cons_cons _ (.cons_cons _ (.refl _))))))))⟩) ?_
            rintro _ _ _ ⟨a4, c4, M4, rfl, ow4, rfl, rfl⟩
            refine AtO.done ?_
            refine At.loudN (l_store t37 rfl rfl (i := 2) rfl rfl rfl rfl) ?_
            rintro _ _ _ ⟨rfl, rfl⟩
            refine At.quiet (q_fieldAddr s40 rfl rfl rfl) rfl ?_
            refine At.loudN (l_store t38 rfl rfl (i := 2) rfl rfl rfl rfl) ?_
            rintro _ _ _ ⟨rfl, rfl⟩
            refine At.nil ?_
            refine At.front 4 rfl ?_
            refine At.front 4 rfl ?_
            refine At.front 4 rfl ?_
            refine At.then ?_
            exact At.meetK (⟨a3, c3, M3⟩, ⟨a4, c4, M4⟩) ⟨by simpa using ow3, by simpa using ow4⟩ (Tells.meet 13 trivial rfl rfl) (fun _ h => h) (.cons_cons _ (.cons_cons _ (.cons_cons _ (.cons _ (.cons _ (.refl _))))))
          · skip
            refine AtO.loud rfl (l_buildSlice Try.underlying38 t4 rfl rfl rfl rfl rfl) rfl (by rintro _ _ _ ⟨_, rfl, rfl, rfl⟩; exact ⟨fun _ h => h, .cons _ (.cons _ (.cons_cons _ (.cons _ (.cons _ (.cons_cons _ (.cons_cons _ (.refl _)))))))⟩) ?_
            rintro _ _ _ ⟨b7, rfl, rfl, rfl⟩
            refine AtO.loud rfl (l_append rfl Try.underlying37 t3 rfl rfl hO1 (by simp; omega) (i := 3) rfl rfl (news := [rowI (i : Int)]) (by simp [rowI]) (RdS.loc (i := 1) rfl (m := 1) rfl) rfl rfl rfl (by omega) (by unfold maxLen; omega)) rfl (by rintro _ _ _ ⟨_, _, _, rfl, _, rfl, rfl⟩; exact ⟨fun _ h => h, (.cons _ (.cons _ (.cons_cons _ (.cons _ (.cons _ (.cons_cons _ (.cons_cons _ (.refl _))))))))⟩) ?_
            rintro _ _ _ ⟨a3, c3, M3, rfl, ow3, rfl, rfl⟩
            refine AtO.quiet rfl (q_fieldAddr s40 rfl rfl rfl) rfl (Calm.then (Calm.inBlock (Calm.then (Calm.inBlock (Calm.then Post.calm))))) ?_
            refine AtO.loudA rfl (l_append rfl Try.underlying38 t4 rfl rfl hO2 (by simp; omega) (i := 4) rfl rfl (news := [rowB (decide (x.key ≤ key))]) (by simp [rowB]) (RdS.loc (i := 0) rfl (m := 1) rfl) rfl rfl rfl (by omega) (by unfold maxLen; omega)) rfl (by rintro _ _ _ ⟨_, _, _, rfl, _, rfl, rfl⟩; exact ⟨fun _ h => h, (.cons _ (.cons _ (.cons_cons _ (.cons _ (.cons _ (.cons_cons _ (.cons_cons _ (.refl _))))))))⟩) ?_
            rintro _ _ _ ⟨a4, c4, M4, rfl, ow4, rfl, rfl⟩
            refine AtO.done ?_
            refine At.loudN (l_store t37 rfl rfl (i := 2) rfl rfl rfl rfl) ?_
            rintro _ _ _ ⟨rfl, rfl⟩
            refine At.quiet (q_fieldAddr s40 rfl rfl rfl) rfl ?_
            refine At.loudN (l_store t38 rfl rfl (i := 2) rfl rfl rfl rfl) ?_
            rintro _ _ _ ⟨rfl, rfl⟩
            refine At.nil ?_
            refine At.front 4 rfl ?_
            refine At.front 4 rfl ?_
            refine At.front 4 rfl ?_
            refine At.then ?_
            exact At.meetK (⟨a3, c3, M3⟩, ⟨a4, c4, M4⟩) ⟨by simpa using ow3, by simpa using ow4⟩ (Tells.meet 13 trivial rfl rfl) (fun _ h => h) (.cons_cons _ (.cons_cons _ (.cons_cons _ (.cons _ (.cons _ (.refl _))))))
        · skip
          refine AtO.loud rfl (l_buildSlice Try.underlying38 t4 rfl rfl rfl rfl rfl) rfl (by rintro _ _ _ ⟨_, rfl, rfl, rfl⟩; exact ⟨fun _ h => h, .cons _ (.cons_cons _ (.cons _ (.cons _ (.cons_cons _ (.cons_cons _ (.refl _))))))⟩) ?_
          rintro _ _ _ ⟨b8, rfl, rfl, rfl⟩
          refine AtO.loud rfl (l_buildSlice Try.underlying37 t3 rfl rfl rfl rfl rfl) rfl (by rintro _ _ _ ⟨_, rfl, rfl, rfl⟩; exact ⟨fun _ h => h, .cons _ (.cons _ (.cons_cons _ (.cons _ (.cons _ (.cons_cons _ (.cons_cons _ (.refl _)))))))⟩) ?_
          rintro _ _ _ ⟨b9, rfl, rfl, rfl⟩
          refine AtO.loud rfl (l_append rfl Try.underlying37 t3 rfl rfl hO1 (by simp; omega) (i := 3) rfl rfl (news := [rowI (i : Int)]) (by simp [rowI]) (RdS.loc (i := 0) rfl (m := 1) rfl) rfl rfl rfl (by omega) (by unfold maxLen; omega)) rfl (by rintro _ _ _ ⟨_, _, _, rfl, _, rfl, rfl⟩; exact ⟨fun _ h => h, (.cons _ (.cons _ (.cons_cons _ (.cons _ (.cons _ (.cons_cons _ (.cons_cons _ (.refl _))))))))⟩) ?_
          rintro _ _ _ ⟨a3, c3, M3, rfl, ow3, rfl, rfl⟩
          refine AtO.quiet rfl (q_fieldAddr s40 rfl rfl rfl) rfl (Calm.then (Calm.inBlock (Calm.then (Calm.inBlock (Calm.then Post.calm))))) ?_
          refine AtO.loudA rfl (l_append rfl Try.underlying38 t4 rfl rfl hO2 (by simp; omega) (i := 4) rfl rfl (news := [rowB (decide (x.key ≤ key))]) (by simp [rowB]) (RdS.loc (i := 1) rfl (m := 1) rfl) rfl rfl rfl (by omega) (by unfold maxLen; omega)) rfl (by rintro _ _ _ ⟨_, _, _, rfl, _, rfl, rfl⟩; exact ⟨fun _ h => h, (.cons _ (.cons _ (.cons_cons _ (.cons _ (.cons _ (.cons_cons _ (.cons_cons _ (.refl _))))))))⟩) ?_
          rintro _ _ _ ⟨a4, c4, M4, rfl, ow4, rfl, rfl⟩
          refine AtO.done ?_
          refine At.loudN (l_store t37 rfl rfl (i := 2) rfl rfl rfl rfl) ?_
          rintro _ _ _ ⟨rfl, rfl⟩
          refine At.quiet (q_fieldAddr s40 rfl rfl rfl) rfl ?_
          refine At.loudN (l_store t38 rfl rfl (i := 2) rfl rfl rfl rfl) ?_
          rintro _ _ _ ⟨rfl, rfl⟩
          refine At.nil ?_
          refine At.front 4 rfl ?_
          refine At.front 4 rfl ?_
          refine At.front 4 rfl ?_
          refine At.then ?_
          exact At.meetK (⟨a3, c3, M3⟩, ⟨a4, c4, M4⟩) ⟨by simpa using ow3, by simpa using ow4⟩ (Tells.meet 13 trivial rfl rfl) (fun _ h => h) (.cons_cons _ (.cons_cons _ (.cons_cons _ (.cons _ (.cons _ (.refl _))))))
      intro j0 hMt
      obtain ⟨⟨a3, c3, M3⟩, ⟨a4, c4, M4⟩⟩ := j0
      obtain ⟨hO3, hO4⟩ := hMt
      refine At.seq ?_
      refine At.region ?_
      refine At.fld s33 t3 rfl rfl rfl (Rd.loc (i := 3) rfl rfl) rfl rfl ?_
      refine At.quiet (q_fieldAddr s40 rfl rfl rfl) rfl ?_
      refine At.loudN (l_store t3 rfl rfl (i := 0) rfl rfl rfl rfl) ?_
      rintro _ _ _ ⟨rfl, rfl⟩
      refine At.nil ?_
      refine At.then ?_
      refine At.seq ?_
      refine At.region ?_
      refine At.skim 1 rfl rfl ?_
      refine At.nil ?_
      refine At.then ?_
      refine At.if rfl (fun hk => ?_) (fun hk => ?_)
      · skip
        refine At.region ?_
        refine At.fld s33 t3 rfl rfl rfl (Rd.loc (i := 3) rfl rfl) rfl rfl ?_
        refine At.quiet (q_fieldAddr s40 rfl rfl rfl) rfl ?_
        refine At.loudN (l_store t3 rfl rfl (i := 0) rfl rfl rfl rfl) ?_
        rintro _ _ _ ⟨rfl, rfl⟩
        refine At.nil ?_
        refine At.inNormal ?_
        refine At.front 2 rfl ?_
        refine At.front 2 rfl ?_
        refine At.front 2 rfl ?_
        refine At.then ?_
        exact At.againK (r, x.right, (n1 + 1, us ++ [(i : Int)], a3, c3, M3), (n2 + 1, rs ++ [true], a4, c4, M4)) ⟨hst.2 hk, hO3, by rw [decide_eq_true hk] at hO4; exact hO4, by simp; omega, by simp [hrl], by simp [hn1], by simp [hn2]⟩ (by simp only [Sh.size]; omega) (Tells.end 26 trivial rfl rfl) (fun _ h => h.2) (.cons_cons _ (.cons_cons _ (.cons_cons _ (.cons _ (.refl _)))))
      · skip
        refine At.skip ?_
        refine At.inNormal ?_
        refine At.front 2 rfl ?_
        refine At.front 2 rfl ?_
        refine At.front 2 rfl ?_
        refine At.then ?_
        exact At.againK (l, x.left, (n1 + 1, us ++ [(i : Int)], a3, c3, M3), (n2 + 1, rs ++ [false], a4, c4, M4)) ⟨hst.1 (by omega), hO3, by rw [decide_eq_false (by omega)] at hO4; exact hO4, by simp; omega, by simp [hrl], by simp [hn1], by simp [hn2]⟩ (by simp only [Sh.size]; omega) (Tells.end 23 trivial rfl rfl) (fun _ h => h.2) (.cons_cons _ (.cons_cons _ (.cons_cons _ (.cons _ (.refl _)))))
    · skip
      obtain rfl : s1 = .leaf i := by
        rcases hc with ⟨_, h⟩ | ⟨h, _⟩
        · exact h
        · rw [show x.route = false from hr] at h; cases h
      obtain ⟨hd1, hd2, hd3⟩ := hW.done
      subst hn1
      subst hn2
      refine At.freezeOwn 1 hO1 rfl ?_
      refine At.freezeOwn 1 hO2 rfl ?_
      refine At.exit ?_
      refine At.thenExit ?_
      refine At.thenExit ?_
      refine At.inHere rfl ?_
      refine At.then ?_
      refine At.seq ?_
      refine At.region ?_
      refine At.quiet (q_loadS t40 rfl (RdS.loc (i := 0) rfl (m := 3) rfl) rfl) rfl ?_
      refine At.loudN (l_store t40 rfl rfl (i := 1) rfl rfl rfl rfl) ?_
      rintro _ _ _ ⟨rfl, rfl⟩
      refine At.skim 1 rfl rfl ?_
      refine At.nil ?_
      refine At.then ?_
      refine At.ret ?_
      exact At.results (Γr := [intsP ⟨a1, c1, us⟩, boolsP ⟨a2, c2, rs⟩]) (M := []) rfl (RVals.cons (RVal.cellS rfl t40 (RdS.loc (i := 1) rfl (m := 3) rfl) rfl) (RVals.cons (RVal.tmp rfl) RVals.nil)) (.tail _ (.tail _ (.tail _ (.tail _ (.head _))))) (fun _ h => ⟨h.2.1, h.1, trivial⟩) (.cons _ (.cons _ (.refl _))) ⟨⟨a1, c1, us⟩, ⟨a2, c2, rs⟩, by rw [not_f hm, hd1]; rfl, rfl, rfl, hd2, hd3⟩
theorem one31 (l : Sl Pr) (hl : l.l.length ≤ 1000000) : Con Try.prog 31 [l.val] [prsP l] [] (OneEnd l.l) := by
  refine Con.body 11 Try.func31 rfl Try.ntmps31 rfl fun X H₀ L₀ => ?_
  refine At.seq ?_
  refine At.region ?_
  refine At.loud (l_alloc t24) rfl ?_
  rintro _ _ _ ⟨b1, rfl, rfl, rfl⟩
  refine At.nil ?_
  refine At.then ?_
  refine At.seq ?_
  refine At.seq ?_
  refine At.region ?_
  refine At.skim 1 rfl rfl ?_
  refine At.call en71 rfl (may71 _) (fun _ h => ⟨h.2.1, trivial⟩) (List.Perm.refl _) rfl ?_
  rintro _ _ _ ⟨rfl, rfl, rfl⟩
  refine At.skim 1 rfl rfl ?_
  refine At.nil ?_
  refine At.then ?_
  refine At.cond rfl (fun hr => ?_) (fun hr => ?_)
  · skip
    refine At.know (prsP ⟨none, 0, []⟩) (fun _ h => sl_nil _ _ _ (Nat.zero_le _)) ?_
    refine At.region ?_
    refine At.skim 1 rfl rfl ?_
    refine At.nil ?_
    refine At.then ?_
    refine At.seq ?_
    refine At.region ?_
    refine At.skim 1 rfl rfl ?_
    refine At.call en72 rfl (clone72 ⟨none, 0, []⟩ (by simp)) (fun _ h => ⟨h.1, trivial⟩) (List.Perm.refl _) rfl ?_
    rintro _ _ _ ⟨s0, rfl, hs0, rfl, rfl⟩
    refine At.quiet (q_build t33 s33 rfl rfl) rfl ?_
    refine At.loud (l_buildSlice Try.underlying22 t33 rfl rfl rfl rfl rfl) rfl ?_
    rintro _ _ _ ⟨b2, rfl, rfl, rfl⟩
    refine At.freeze 0 (φ := ndsP ⟨some ⟨b2, 0, none⟩, 1, [⟨false, 0, 0, 0, s0, 0⟩]⟩) rfl (fun _ h => sl_of_block h rfl (by simp [rowN]) rfl (show (1 : Nat) ≤ maxLen from by decide)) ?_
    refine At.know (psP [⟨false, 0, 0, 0, s0, 0⟩]) (fun _ h => psP_cons (n := ⟨false, 0, 0, 0, s0, 0⟩) h.2.1 psP_nil) ?_
    refine At.quiet (q_build t24 s24 rfl rfl) rfl ?_
    refine At.loudN (l_store t24 rfl rfl (i := 0) rfl rfl rfl rfl) ?_
    rintro _ _ _ ⟨rfl, rfl⟩
    refine At.nil ?_
    refine At.then ?_
    refine At.ret ?_
    exact At.results (Γr := [_, _]) (M := []) rfl (RVals.cons (RVal.cellS rfl t24 (RdS.loc (i := 0) rfl (m := 2) rfl) rfl) RVals.nil) (.tail _ (.tail _ (.tail _ (.tail _ (.head _))))) (fun _ h => ⟨h.2.1, h.1, trivial⟩) (.cons _ (.refl _)) ⟨⟨0, ⟨some ⟨_, 0, none⟩, 1, [⟨false, 0, 0, 0, s0, 0⟩]⟩⟩, rfl, rfl, rfl, by simp [oneT, Tr.p, Nd.p, hs0, not_t hr]⟩
  · skip
    refine At.skip ?_
    refine At.then ?_
    refine At.seq ?_
    refine At.region ?_
    refine At.skim 1 rfl rfl ?_
    refine At.call en72 rfl (clone72 l (by simpa using hl)) (fun _ h => ⟨h.2.1, trivial⟩) (List.Perm.refl _) rfl ?_
    rintro _ _ _ ⟨s0, rfl, hs0, rfl, rfl⟩
    refine At.quiet (q_build t33 s33 rfl rfl) rfl ?_
    refine At.loud (l_buildSlice Try.underlying22 t33 rfl rfl rfl rfl rfl) rfl ?_
    rintro _ _ _ ⟨b3, rfl, rfl, rfl⟩
    refine At.freeze 0 (φ := ndsP ⟨some ⟨b3, 0, none⟩, 1, [⟨false, 0, 0, 0, s0, 0⟩]⟩) rfl (fun _ h => sl_of_block h rfl (by simp [rowN]) rfl (show (1 : Nat) ≤ maxLen from by decide)) ?_
    refine At.know (psP [⟨false, 0, 0, 0, s0, 0⟩]) (fun _ h => psP_cons (n := ⟨false, 0, 0, 0, s0, 0⟩) h.2.1 psP_nil) ?_
    refine At.quiet (q_build t24 s24 rfl rfl) rfl ?_
    refine At.loudN (l_store t24 rfl rfl (i := 0) rfl rfl rfl rfl) ?_
    rintro _ _ _ ⟨rfl, rfl⟩
    refine At.nil ?_
    refine At.then ?_
    refine At.ret ?_
    exact At.results (Γr := [_, _]) (M := []) rfl (RVals.cons (RVal.cellS rfl t24 (RdS.loc (i := 0) rfl (m := 2) rfl) rfl) RVals.nil) (.tail _ (.tail _ (.tail _ (.head _)))) (fun _ h => ⟨h.2.1, h.1, trivial⟩) (.cons _ (.refl _)) ⟨⟨0, ⟨some ⟨_, 0, none⟩, 1, [⟨false, 0, 0, 0, s0, 0⟩]⟩⟩, rfl, rfl, rfl, by simp [oneT, Tr.p, Nd.p, hs0, not_f hr]⟩
theorem top27 (p : PathS) : Con Try.prog 27 [p.val] [] [] (fun v Γ M => v = .bool (decide (p.ups.l = [])) ∧ Γ = [] ∧ M = []) := by
  refine Con.body 7 Try.func27 rfl Try.ntmps27 rfl fun X H₀ L₀ => ?_
  refine At.seq ?_
  refine At.region ?_
  refine At.loud (l_box rfl) rfl ?_
  rintro _ _ _ ⟨b1, rfl, rfl, rfl⟩
  refine At.freeze 0 (φ := blk b1 _) rfl (fun _ h => blk_def.2 ⟨_, _, h⟩) ?_
  refine At.skim 1 rfl rfl ?_
  refine At.nil ?_
  refine At.then ?_
  refine At.seq ?_
  refine At.region ?_
  refine At.fld s40 t37 rfl rfl rfl (Rd.blk (.head _) rfl) rfl rfl ?_
  refine At.quiet (q_len Try.underlying37 rfl) rfl ?_
  refine At.skim 2 rfl rfl ?_
  refine At.nil ?_
  refine At.then ?_
  refine At.ret ?_
  exact At.results (Γr := []) (M := []) rfl (RVals.cons (RVal.tmp rfl) RVals.nil) (.tail _ (.head _)) (fun _ _ => trivial) (.refl _) ⟨congrArg Value.bool (decide_len_zero p.ups.l), rfl, rfl⟩
theorem right32 (p : PathS) : Con Try.prog 32 [p.val] [boolsP p.rights] [] (fun v Γ M => v = .bool (p.rights.l.getLast?.getD false) ∧ Γ = [] ∧ M = []) := by
  refine Con.body 17 Try.func32 rfl Try.ntmps32 rfl fun X H₀ L₀ => ?_
  refine At.lenOf (hs := (.tail _ (.head _))) fun hlen => ?_
  rw [List.length_map] at hlen
  refine At.seq ?_
  refine At.region ?_
  refine At.loud (l_box rfl) rfl ?_
  rintro _ _ _ ⟨b1, rfl, rfl, rfl⟩
  refine At.freeze 0 (φ := blk b1 _) rfl (fun _ h => blk_def.2 ⟨_, _, h⟩) ?_
  refine At.skim 1 rfl rfl ?_
  refine At.nil ?_
  refine At.then ?_
  refine At.seq ?_
  refine At.region ?_
  refine At.fld s40 t38 rfl rfl rfl (Rd.blk (.head _) rfl) rfl rfl ?_
  refine At.quiet (q_len Try.underlying38 rfl) rfl ?_
  refine At.quiet (q_sub rfl rfl (by omega) (by omega)) rfl ?_
  refine At.skim 1 rfl rfl ?_
  refine At.nil ?_
  refine At.then ?_
  refine At.seq ?_
  refine At.region ?_
  refine At.skim 3 rfl rfl ?_
  refine At.splitP (d := 10) rfl (fun h0 => ?_) (fun h0 => ?_)
  · skip
    obtain ⟨j, hj⟩ : ∃ j : Nat, p.rights.l.length = j + 1 := ⟨p.rights.l.length - 1, by omega⟩
    obtain ⟨x, hx⟩ := get_of_lt (l := p.rights.l) (i := j) (by omega)
    refine At.open rfl rfl ?_
    refine At.quiet (q_fieldAddr s40 rfl rfl rfl) rfl ?_
    refine At.open rfl rfl ?_
    refine At.quiet (q_load t38 rfl (Rd.blk (.head _) rfl)) rfl ?_
    refine At.skim 1 rfl rfl ?_
    refine At.open rfl rfl ?_
    refine At.quiet (q_index Try.underlying38 t4 rfl (.tail _ (.tail _ (.head _))) (by simp) rfl (by omega) (lt_of_get hx)) rfl ?_
    refine At.open rfl rfl ?_
    refine At.quiet (q_load t4 rfl (Rd.sl0 (.tail _ (.tail _ (.head _))) (map_get hx) rfl)) rfl ?_
    refine At.skim 2 rfl rfl ?_
    refine At.nil ?_
    refine At.then ?_
    refine At.ret ?_
    exact At.results (Γr := []) (M := []) rfl (RVals.cons (RVal.tmp rfl) RVals.nil) (.tail _ (.head _)) (fun _ _ => trivial) (.refl _) ⟨congrArg Value.bool (last_get hj hx), rfl, rfl⟩
  · skip
    refine At.skim 7 rfl rfl ?_
    refine At.nil ?_
    refine At.then ?_
    refine At.ret ?_
    exact At.results (Γr := []) (M := []) rfl (RVals.cons (RVal.tmp rfl) RVals.nil) (.tail _ (.head _)) (fun _ _ => trivial) (.refl _) ⟨congrArg Value.bool (by rw [List.eq_nil_of_length_eq_zero (l := p.rights.l) (by omega)]; rfl), rfl, rfl⟩
end Go.Proofs.Ytmkodknmknfdkaa
set_option linter.unusedVariables false
set_option linter.unusedSimpArgs false
namespace Go.Proofs.Ytmkodknmknfdkaa
open E
section
variable {t : PT} {a : Int} {i : Nat} {l : List Pr} {stat : Int} {n : Nod}
theorem set_no1 (h : (mayT t).isSome = false) : setT t a l stat = none := by simp [setT, none_of h]
theorem set_no2 (h : a < 0) : setT t a l stat = none := by simp [setT, h]
theorem set_no3 (h : t.ns.length ≤ i) : setT t (i : Int) l stat = none := by
  have : t.ns[i]? = none := List.getElem?_eq_none h
  simp [setT, this]
theorem set_no4 (hn : t.ns[i]? = some n) (h : n.route = true) : setT t (i : Int) l stat = none := by
  simp [setT, hn, h]
theorem set_no5 (hn : t.ns[i]? = some n) (hr : n.route = false) (h : (mayT ⟨t.root, t.ns.set i { n with l := l, stat := stat }⟩).isSome = false) : setT t (i : Int) l stat = none := by
  unfold setT
  split
  · rfl
  split
  · rfl
  simp only [Int.toNat_natCast, hn]
  rw [if_neg (by rw [hr]; decide), none_of h]
  rfl
theorem set_ok {s : Sh} (hs : mayT t = some s) (hn : t.ns[i]? = some n) (hr : n.route = false) (h : (mayT ⟨t.root, t.ns.set i { n with l := l, stat := stat }⟩).isSome = true) :
    setT t (i : Int) l stat = some ⟨t.root, t.ns.set i { n with l := l, stat := stat }⟩ := by
  have h0 : ¬ ((i : Int) < 0) := by omega
  unfold setT
  rw [if_neg (by simp [hs]), if_neg h0]
  simp only [Int.toNat_natCast, hn]
  obtain ⟨s', hs'⟩ := Option.isSome_iff_exists.1 h
  rw [if_neg (by rw [hr]; decide), if_neg (by rw [hs']; simp)]
end
theorem set_step_at {t : Tr} {i : Nat} {x : Nd} {l : Sl Pr} {stat : Int} {o : List Nd} {s0 : Sl Pr} (ho : o.map Nd.p = (t.p.ns.set i { x.p with l := l.l, stat := stat }).take i) (hs : s0.l = l.l) (hx : t.p.ns[i]? = some x.p) :
    (o ++ [({ x with ps := s0, stat := stat } : Nd)]).map Nd.p = (t.p.ns.set i { x.p with l := l.l, stat := stat }).take (i + 1) := by
  have hi := lt_of_get hx
  rw [List.take_succ_eq_append_getElem (by simpa using hi), List.map_append, ho]
  simp [Nd.p, hs]
theorem set_step_ne {t : Tr} {i k : Nat} {x : Nod} {y : Nd} {o : List Nd} {s0 : Sl Pr} (ho : o.map Nd.p = (t.p.ns.set i x).take k) (hs : s0.l = y.ps.l) (hy : t.p.ns[k]? = some y.p) (hne : k ≠ i) :
    (o ++ [({ y with ps := s0 } : Nd)]).map Nd.p = (t.p.ns.set i x).take (k + 1) := by
  have hk := lt_of_get hy
  rw [List.take_succ_eq_append_getElem (by simpa using hk), List.map_append, ho]
  rw [List.getElem_set_ne (Ne.symm hne), (List.getElem?_eq_some_iff.1 hy).2]
  simp [Nd.p, hs]
end Go.Proofs.Ytmkodknmknfdkaa
set_option linter.unusedVariables false
set_option linter.unusedSimpArgs false
namespace Go.Proofs.Ytmkodknmknfdkaa
open E
set_option maxRecDepth 4000
end Go.Proofs.Ytmkodknmknfdkaa
set_option linter.unusedVariables false
set_option linter.unusedSimpArgs false
namespace Go.Proofs.Ytmkodknmknfdkaa
open E
def CopyEnd (t : Tr) (v : Value) (Γ : List SProp) (M : E.Loc) : Prop :=
  ∃ (u : Tr) (M' : E.Seg), v = u.val ∧ Γ = [psP u.ns.l] ∧ M = [M'] ∧ E.Own 33 6 (u.ns.l.map rowN) u.ns.a u.ns.c M' ∧ u.p = t.p
theorem copy_step {t : Tr} {k : Nat} {y : Nd} {o : List Nd} {s0 : Sl Pr} (ho : o.map Nd.p = t.p.ns.take k) (hs : s0.l = y.ps.l) (hy : t.p.ns[k]? = some y.p) :
    (o ++ [({ y with ps := s0 } : Nd)]).map Nd.p = t.p.ns.take (k + 1) := by
  have hk := lt_of_get hy
  rw [List.take_succ_eq_append_getElem hk, List.map_append, ho, (List.getElem?_eq_some_iff.1 hy).2]
  simp [Nd.p, hs]
/-- A pair more, or another value: of the first pairs. -/
def withGo (p : Pr) : List Pr → Bool → List Pr
  | [], done => if done then [] else [p]
  | x :: l, done => (if !done && decide (p.k ≤ x.k) then [p] else []) ++ ((if x.k = p.k then [] else [x]) ++ withGo p l (done || decide (p.k ≤ x.k)))
def withT (l : List Pr) (p : Pr) : List Pr := withGo p l false
theorem with_step {l : List Pr} {k : Nat} {x p : Pr} {d d' : Bool} {W o q : List Pr} (hx : l[k]? = some x) (h : W = o ++ withGo p (l.drop k) d) (hd : d' = (d || decide (p.k ≤ x.k)))
    (hq : q = (if !d && decide (p.k ≤ x.k) then [p] else []) ++ (if x.k = p.k then [] else [x])) : W = (o ++ q) ++ withGo p (l.drop (k + 1)) d' := by
  have hk := lt_of_get hx
  rw [List.drop_eq_getElem_cons hk, (List.getElem?_eq_some_iff.1 hx).2] at h
  rw [h, hq, hd]
  simp only [withGo, List.append_assoc]
theorem with_end {l : List Pr} {k : Nat} {p : Pr} {d : Bool} {W o : List Pr} (hk : l.length ≤ k) (h : W = o ++ withGo p (l.drop k) d) : W = o ++ (if d then [] else [p]) := by
  rw [h, List.drop_eq_nil_of_le hk]; rfl
end Go.Proofs.Ytmkodknmknfdkaa
set_option linter.unusedVariables false
set_option linter.unusedSimpArgs false
namespace Go.Proofs.Ytmkodknmknfdkaa
open E
set_option maxRecDepth 4000
end Go.Proofs.Ytmkodknmknfdkaa
set_option linter.unusedVariables false
set_option linter.unusedSimpArgs false
namespace Go.Proofs.Ytmkodknmknfdkaa
open E
def leafFields (n : Nod) : Bool := decide (n.key = 0) && (decide (n.left = 0) && (decide (n.right = 0) && (rises n.l && (decide (-1000000 ≤ n.stat) && decide (n.stat ≤ 1000000)))))
/-- Bounds, as slices. -/
def Kb.lo (k : Kb) : List Int := if k.isLeast then [k.least] else []
def Kb.hi (k : Kb) : List Int := if k.isMost then [k.most] else []
def planBox (t : Tr) (b : Nat) (a : Option Addr) (n : Nat) (c : Nat) (a2 : Option Addr) (c2 : Nat) (bad : Bool) : E.Seg :=
  [(b, .cells #[.int .i64 t.root, t.ns.val, .slice a n c, .slice a2 t.ns.l.length c2, .bool bad] 109 (0, 0))]
def NodeEnd (t : Tr) (f : Nat) (met : List Nat) (at_ : Int) (k : Kb) (b : Nat) (o : List Nd) (a2 : Option Addr) (c2 : Nat) (v : Value) (Γ : List SProp) (M : E.Loc) : Prop :=
  ∃ (q : List Nd) (a' : Option Addr) (c' : Nat) (M1 M2 : E.Seg) (bad : Bool) (v' : Int), v = .int .i64 v' ∧ Γ = [psP (o ++ q)] ∧ M = [planBox t b a' (o ++ q).length c' a2 c2 bad, M1, M2] ∧ E.Own 33 6 ((o ++ q).map rowN) a' c' M1 ∧
    (o ++ q).length ≤ o.length + (bits t.ns.l.length met).count false ∧
    (∀ s, shape t.p.ns f met at_ k = some s → bad = false ∧ v' = (o.length : Int) ∧ q.map Nd.p = s.lay t.p.ns o.length ∧ E.Own 4 1 ((bits t.ns.l.length (s.places ++ met)).map rowB) a2 c2 M2 ∧
      (o ++ q).length + (bits t.ns.l.length (s.places ++ met)).count false ≤ o.length + (bits t.ns.l.length met).count false) ∧
    (shape t.p.ns f met at_ k = none → bad = true)
def Node77 (t : Tr) (f : Nat) : Prop := ∀ (met : List Nat) (at_ : Int) (k : Kb) (lo hi : Sl Int) (b : Nat) (o : List Nd) (a : Option Addr) (c : Nat) (Mo : E.Seg) (a2 : Option Addr) (c2 : Nat) (Ms : E.Seg),
  (bits t.ns.l.length met).count false < f → E.Own 33 6 (o.map rowN) a c Mo → E.Own 4 1 ((bits t.ns.l.length met).map rowB) a2 c2 Ms → o.length + (bits t.ns.l.length met).count false ≤ 1000000 → lo.l = k.lo → hi.l = k.hi →
  Con Try.prog 77 [.pointer (some ⟨b, 0, none⟩), .int .i64 at_, lo.val, hi.val] [ndsP t.ns, psP t.ns.l, intsP lo, intsP hi, psP o] [planBox t b a o.length c a2 c2 false, Mo, Ms] (NodeEnd t f met at_ k b o a2 c2)
theorem NodeEnd.no {t : Tr} {f : Nat} {met : List Nat} {at_ : Int} {k : Kb} {b : Nat} {o : List Nd} {a a2 : Option Addr} {c c2 : Nat} {Mo Ms : E.Seg} (h : shape t.p.ns f met at_ k = none) (hO : E.Own 33 6 (o.map rowN) a c Mo) :
    NodeEnd t f met at_ k b o a2 c2 (.int .i64 0) [psP o] [planBox t b a o.length c a2 c2 true, Mo, Ms] :=
  ⟨[], a, c, Mo, Ms, true, 0, rfl, by simp, by simp, by simpa using hO, by simp, fun s hs => (by rw [h] at hs; cases hs), fun _ => rfl⟩
/-- Is a leaf spoilt, as far as one has looked? -/
def badAt (n : Nod) (k : Kb) (j : Nat) : Bool := !(leafFields n && (n.l.take j).all (fun p => k.has p.k))
theorem NodeEnd.leaf {t : Tr} {f i : Nat} {met : List Nat} {k : Kb} {b : Nat} {o : List Nd} {n : Nd} {x : Nod} {a4 a2 : Option Addr} {c4 c2 : Nat} {M4 M2 : E.Seg} {bad : Bool} (hsh : shape t.p.ns f met (i : Int) k = if leafOk x k then some (.leaf i) else none) (hbad : bad = !leafOk x k)
    (hO : E.Own 33 6 ((o ++ [n]).map rowN) a4 c4 M4) (hn : n.p = x) (hg : t.p.ns.getD i default = x) (hS : E.Own 4 1 ((bits t.ns.l.length (i :: met)).map rowB) a2 c2 M2) (hcs : (bits t.ns.l.length (i :: met)).count false + 1 = (bits t.ns.l.length met).count false) :
    NodeEnd t f met (i : Int) k b o a2 c2 (.int .i64 (o.length : Int)) [psP (o ++ [n])] [planBox t b a4 (o.length + 1) c4 a2 c2 bad, M4, M2] := by
  refine ⟨[n], a4, c4, M4, M2, bad, o.length, rfl, rfl, by simp, hO, by rw [List.length_append]; simp only [List.length_singleton]; omega, fun s hs => ?_, fun hs => ?_⟩
  · rw [hsh] at hs
    cases hl : leafOk x k
    · rw [hl] at hs; cases hs
    · rw [hl] at hs
      cases hs
      exact ⟨by rw [hbad, hl]; rfl, rfl, by show [n.p] = [_]; rw [hn, hg], hS, by rw [List.length_append]; simp only [List.length_singleton]; show _ + (bits _ (i :: met)).count false ≤ _; omega⟩
  · rw [hsh] at hs
    cases hl : leafOk x k
    · rw [hbad, hl]; rfl
    · rw [hl] at hs; cases hs
theorem route_pure {n : Nod} {k : Kb} (h : routeOk n k = true) : n.l = [] ∧ n.stat = 0 := by
  simp only [routeOk, Bool.and_eq_true, decide_eq_true_eq, List.isEmpty_iff] at h
  exact ⟨h.1, h.2.1⟩
/-- A route, its left side spoilt. -/
theorem NodeEnd.left {t : Tr} {f : Nat} {met : List Nat} {at_ : Int} {k : Kb} {b : Nat} {o q : List Nd} {a a2 : Option Addr} {c c2 : Nat} {Mo Ms : E.Seg} (h : shape t.p.ns f met at_ k = none) (hO : E.Own 33 6 ((o ++ q).map rowN) a c Mo) {N : Nat} (hN : N = (o ++ q).length) {v' : Int}
    (hb : (o ++ q).length ≤ o.length + (bits t.ns.l.length met).count false) : NodeEnd t f met at_ k b o a2 c2 (.int .i64 v') [psP (o ++ q)] [planBox t b a N c a2 c2 true, Mo, Ms] := by
  subst hN
  exact ⟨q, a, c, Mo, Ms, true, v', rfl, rfl, rfl, hO, hb, fun s hs => (by rw [h] at hs; cases hs), fun _ => rfl⟩
/-- A route, its left side all right. -/
theorem NodeEnd.node {t : Tr} {f i : Nat} {met : List Nat} {k k2 : Kb} {b : Nat} {o q1 q2 : List Nd} {n : Nd} {x : Nod} {l : Sh} {at2 : Int} {a a2 : Option Addr} {c c2 : Nat} {M1 M2 : E.Seg} {bad : Bool} {N : Nat} {v2 : Int} {n0 : Nd}
    (hsh : shape t.p.ns (f + 1) met (i : Int) k = (shape t.p.ns f (l.places ++ i :: met) at2 k2).map (.node i l)) (hg : t.p.ns.getD i default = x) (hr : x.route = true) (hp : x.l = [] ∧ x.stat = 0)
    (hq1 : q1.map Nd.p = l.lay t.p.ns (o ++ [n0]).length) (hO : E.Own 33 6 ((o ++ n :: (q1 ++ q2)).map rowN) a c M1) (hN : N = (((o ++ [n0]) ++ q1) ++ q2).length)
    (hcs : (bits t.ns.l.length (i :: met)).count false + 1 = (bits t.ns.l.length met).count false)
    (hl1 : ((o ++ [n0]) ++ q1).length + (bits t.ns.l.length (l.places ++ i :: met)).count false ≤ (o ++ [n0]).length + (bits t.ns.l.length (i :: met)).count false)
    (hb : (((o ++ [n0]) ++ q1) ++ q2).length ≤ ((o ++ [n0]) ++ q1).length + (bits t.ns.l.length (l.places ++ i :: met)).count false)
    (hn : n = ⟨true, x.key, ((o ++ [n0]).length : Nat), v2, ⟨none, 0, []⟩, 0⟩)
    (hs : ∀ s, shape t.p.ns f (l.places ++ i :: met) at2 k2 = some s → bad = false ∧ v2 = (((o ++ [n0]) ++ q1).length : Int) ∧ q2.map Nd.p = s.lay t.p.ns ((o ++ [n0]) ++ q1).length ∧ E.Own 4 1 ((bits t.ns.l.length (s.places ++ (l.places ++ i :: met))).map rowB) a2 c2 M2 ∧
      (((o ++ [n0]) ++ q1) ++ q2).length + (bits t.ns.l.length (s.places ++ (l.places ++ i :: met))).count false ≤ ((o ++ [n0]) ++ q1).length + (bits t.ns.l.length (l.places ++ i :: met)).count false)
    (hno : shape t.p.ns f (l.places ++ i :: met) at2 k2 = none → bad = true) :
    NodeEnd t (f + 1) met (i : Int) k b o a2 c2 (.int .i64 (o.length : Int)) [psP (o ++ n :: (q1 ++ q2))] [planBox t b a N c a2 c2 bad, M1, M2] := by
  have hlen : (o ++ n :: (q1 ++ q2)).length = (((o ++ [n0]) ++ q1) ++ q2).length := by simp
  refine ⟨n :: (q1 ++ q2), a, c, M1, M2, bad, o.length, rfl, rfl, by rw [hN, hlen], hO, ?_, fun s hs' => ?_, fun hs' => ?_⟩
  · rw [hlen]; simp only [List.length_append, List.length_singleton] at *; omega
  · rw [hsh] at hs'
    cases hr' : shape t.p.ns f (l.places ++ i :: met) at2 k2 with
    | none => rw [hr'] at hs'; cases hs'
    | some r =>
      rw [hr'] at hs'
      cases hs'
      obtain ⟨e1, e2, e3, e4, e5⟩ := hs r hr'
      have eb : bits t.ns.l.length ((Sh.node i l r).places ++ met) = bits t.ns.l.length (r.places ++ (l.places ++ i :: met)) := bits_mem fun j => by
        simp only [Sh.places, List.contains_eq_mem, List.mem_append, List.mem_cons, List.cons_append, List.append_assoc]
        congr 1
        simp only [eq_iff_iff]
        constructor <;> (intro h; rcases h with h | h | h | h <;> simp [h])
      refine ⟨e1, rfl, ?_, by rw [eb]; exact e4, ?_⟩
      · have hq1l : q1.length = l.size := by have := congrArg List.length hq1; rwa [List.length_map, Sh.lay_length] at this
        simp only [Sh.lay, hg, List.map_cons, List.map_append, hq1, e3, List.length_append, List.length_singleton, hq1l]
        congr 1
        rw [hn, e2]
        obtain ⟨x1, x2, x3, x4, x5, x6⟩ := x
        simp only [Nd.p, List.length_append, List.length_singleton, hq1l] at *
        simp [hr, hp.1, hp.2]
      · rw [eb, hlen]; simp only [List.length_append, List.length_singleton] at *; omega
  · rw [hsh] at hs'
    cases hr' : shape t.p.ns f (l.places ++ i :: met) at2 k2 with
    | none => exact hno hr'
    | some r => rw [hr'] at hs'; cases hs'
end Go.Proofs.Ytmkodknmknfdkaa
set_option linter.unusedVariables false
set_option linter.unusedSimpArgs false
namespace Go.Proofs.Ytmkodknmknfdkaa
open E
set_option maxRecDepth 4000
end Go.Proofs.Ytmkodknmknfdkaa
set_option linter.unusedVariables false
set_option linter.unusedSimpArgs false
namespace Go.Proofs.Ytmkodknmknfdkaa
open E
def leafT (t : PT) (a : Int) : Bool := (mayT t).isSome && (decide (0 ≤ a) && (match t.ns[a.toNat]? with | none => false | some n => !n.route))
theorem leaf_no {t : PT} {a : Int} (h : (mayT t).isSome = false) : leafT t a = false := by simp [leafT, none_of h]
theorem leaf_neg {t : PT} {a : Int} (h : a < 0) : leafT t a = false := by
  have : ¬ (0 ≤ a) := by omega
  simp [leafT, this]
theorem leaf_out {t : PT} {i : Nat} (h : t.ns.length ≤ i) : leafT t (i : Int) = false := by
  have : t.ns[i]? = none := List.getElem?_eq_none h
  simp [leafT, this]
theorem leaf_at {t : PT} {i : Nat} {n : Nod} (h : (mayT t).isSome = true) (hn : t.ns[i]? = some n) : leafT t (i : Int) = !n.route := by
  simp [leafT, h, hn]
theorem leaf_yes {t : PT} {a : Int} (h : leafT t a = true) : ∃ (s : Sh) (i : Nat) (n : Nod), mayT t = some s ∧ a = (i : Int) ∧ t.ns[i]? = some n ∧ n.route = false := by
  simp only [leafT, Bool.and_eq_true, decide_eq_true_eq] at h
  obtain ⟨h1, h2, h3⟩ := h
  obtain ⟨s, hs⟩ := Option.isSome_iff_exists.1 h1
  cases hn : t.ns[a.toNat]? with
  | none => rw [hn] at h3; cases h3
  | some n => rw [hn] at h3; exact ⟨s, a.toNat, n, hs, by omega, hn, by simpa using h3⟩
theorem row_set (l : List Nd) (i : Nat) (m : Nd) : (l.set i m).map rowN = (l.map rowN).set i (rowN m) := List.map_set
theorem set_val (r : Int) (a : Option Addr) (c : Nat) (l : List Nd) (i : Nat) (m : Nd) : Tr.val ⟨r, ⟨a, c, l.set i m⟩⟩ = .agg #[.int .i64 r, .slice a l.length c] := by simp [Tr.val, Sl.val]
theorem small_p {l l' : List Nd} (h : l'.map Nd.p = l.map Nd.p) (hs : smallP l) : smallP l' := fun n hn => by
  have h1 : n.p ∈ l.map Nd.p := h ▸ List.mem_map.2 ⟨n, hn, rfl⟩
  obtain ⟨m, hm, e⟩ := List.mem_map.1 h1
  have h2 := hs m hm
  have h3 : m.p.l = n.p.l := by rw [e]
  have h4 : m.ps.l = n.ps.l := h3
  rw [← h4]
  exact h2
theorem small_set {l : List Nd} {i : Nat} {m : Nd} (hs : smallP l) (hm : m.ps.l.length ≤ 1000000) : smallP (l.set i m) := fun n hn => by
  rcases List.mem_or_eq_of_mem_set hn with h | h
  · exact hs n h
  · rw [h]; exact hm
def PathEnd (t : Tr) (key : Int) (v : Value) (Γ : List SProp) (M : E.Loc) : Prop :=
  ∃ (us : Sl Int) (rs : Sl Bool), v = .tuple #[.int .i64 ((findD t.p key).leaf : Int), us.val, rs.val] ∧ Γ = [intsP us, boolsP rs] ∧ M = [] ∧ us.l = toI (findD t.p key).ups ∧ rs.l = (findD t.p key).rights
def SetEndF (t : Tr) (a : Int) (l : Sl Pr) (stat : Int) (v : Value) (Γ : List SProp) (M : E.Loc) : Prop :=
  ∃ u : Tr, v = .tuple #[u.val, .bool (setT t.p a l.l stat).isSome] ∧ Γ = [ndsP u.ns, psP u.ns.l] ∧ M = [] ∧ u.p = setD t.p a l.l stat
/-- The tree that awake knows. -/
def awT : PT := ⟨2, [⟨false, 0, 0, 0, [⟨1, 0⟩], 0⟩, ⟨false, 0, 0, 0, [⟨5, 0⟩], 0⟩, ⟨true, 3, 0, 1, [], 0⟩]⟩
def Fits (ns : List Nod) : Sh → Int → Kb → Prop
  | .leaf i, a, k => a = (i : Int) ∧ ∃ n, ns[i]? = some n ∧ n.route = false ∧ leafOk n k = true
  | .node i l r, a, k => a = (i : Int) ∧ ∃ n, ns[i]? = some n ∧ n.route = true ∧ routeOk n k = true ∧ Fits ns l n.left (k.lefts n.key) ∧ Fits ns r n.right (k.rights n.key)
theorem fits_of : ∀ {f : Nat} {ns : List Nod} {met : List Nat} {at_ : Int} {k : Kb} {s : Sh}, shape ns f met at_ k = some s → Fits ns s at_ k
  | 0, _, _, _, _, _, h => by simp [shape] at h
  | f + 1, ns, met, at_, k, s, h => by
    obtain ⟨i, n, rfl, hn, _, hc⟩ := shape_some h
    rcases hc with ⟨hr, hk, rfl⟩ | ⟨hr, hk, l, r, rfl, hl, hr'⟩
    · exact ⟨rfl, n, hn, hr, hk⟩
    · exact ⟨rfl, n, hn, hr, hk, fits_of hl, fits_of hr'⟩
theorem Fits.lt {ns : List Nod} {s : Sh} {a : Int} {k : Kb} (h : Fits ns s a k) : ∀ i ∈ s.places, i < ns.length := by
  induction s generalizing a k with
  | leaf j =>
    obtain ⟨_, n, hn, _⟩ := h
    intro i hi
    simp [Sh.places] at hi
    subst hi
    exact lt_of_get hn
  | node j l r h1 h2 =>
    obtain ⟨_, n, hn, _, _, hl, hr⟩ := h
    intro i hi
    simp only [Sh.places, List.mem_cons, List.mem_append] at hi
    rcases hi with rfl | hi | hi
    · exact lt_of_get hn
    · exact h1 hl i hi
    · exact h2 hr i hi
theorem Fits.hangs {ns : List Nod} {s : Sh} {a : Int} {k : Kb} (h : Fits ns s a k) : Hangs ns s a := by
  induction s generalizing a k with
  | leaf j => obtain ⟨h0, n, hn, hr, _⟩ := h; exact ⟨h0, n, hn, hr⟩
  | node j l r h1 h2 => obtain ⟨h0, n, hn, hr, _, hl, hr'⟩ := h; exact ⟨h0, n, hn, hr, h1 hl, h2 hr'⟩
theorem shape_of_fits {ns : List Nod} {s : Sh} {a : Int} {k : Kb} (h : Fits ns s a k) : ∀ {f : Nat} {met : List Nat}, s.places.Nodup → (∀ i ∈ s.places, i ∉ met) → s.size ≤ f → shape ns f met a k = some s := by
  induction s generalizing a k with
  | leaf j =>
    obtain ⟨rfl, n, hn, hr, hk⟩ := h
    intro f met _ hm hf
    cases f with
    | zero => simp [Sh.size] at hf
    | succ f =>
      have : met.contains j = false := by simpa using hm j (by simp [Sh.places])
      rw [sh_leaf hn this hr, hk]
      rfl
  | node j l r h1 h2 =>
    obtain ⟨rfl, n, hn, hr, hk, hl, hr'⟩ := h
    intro f met hnd hm hf
    cases f with
    | zero => simp only [Sh.size] at hf; omega
    | succ f =>
      simp only [Sh.size] at hf
      simp only [Sh.places, List.nodup_cons, List.mem_append, List.nodup_append] at hnd
      obtain ⟨hj, hn1, hn2, hd⟩ := hnd
      have hmj : met.contains j = false := by simpa using hm j (by simp [Sh.places])
      have e1 : shape ns f (j :: met) n.left (k.lefts n.key) = some l := h1 hl hn1 (fun i hi => by
        rw [List.mem_cons]
        rintro (h | h)
        · subst h; exact hj (.inl hi)
        · exact hm i (by simp [Sh.places, hi]) h) (by omega)
      have e2 : shape ns f (l.places ++ j :: met) n.right (k.rights n.key) = some r := h2 hr' hn2 (fun i hi => by
        rw [List.mem_append, List.mem_cons]
        rintro (h | h | h)
        · exact hd i h i hi rfl
        · subst h; exact hj (.inr hi)
        · exact hm i (by simp [Sh.places, hi]) h) (by omega)
      rw [sh_right hn hmj hr hk e1, e2]
      rfl
theorem may_fits {t : PT} {s : Sh} (h : mayT t = some s) : Fits t.ns s t.root Kb.all := fits_of (may_hangs h).2.1
theorem may_of_fits {t : PT} {s : Sh} (hN : t.ns.length ≤ 2000) (hf : Fits t.ns s t.root Kb.all) (hn : s.places.Nodup) (ha : ∀ i, i < t.ns.length → i ∈ s.places) : mayT t = some s := by
  have h1 := nodup_len hn hf.lt
  rw [Sh.size_places] at h1
  have hs := shape_of_fits hf (f := t.ns.length + 1) (met := []) hn (fun _ _ => by simp) (by omega)
  unfold mayT
  rw [if_neg (by omega), hs]
  simp only []
  rw [if_pos]
  rw [List.all_eq_true]
  intro i hi
  simpa using ha i (List.mem_range.1 hi)
theorem Good.perm {t : PT} {s : Sh} (h : Good t s) : s.places.Perm (List.range t.ns.length) := by
  rw [List.perm_ext_iff_of_nodup h.nodup List.nodup_range]
  intro i
  rw [List.mem_range]
  exact ⟨h.lt i, h.all i⟩
theorem range_get {ns : List Nod} : (List.range ns.length).map (fun i => ns.getD i default) = ns := by
  apply List.ext_getElem?
  intro j
  by_cases hj : j < ns.length
  · rw [List.getElem?_map, List.getElem?_range hj]
    simp [List.getElem?_eq_getElem hj]
  · rw [List.getElem?_eq_none (by simp; omega), List.getElem?_eq_none (by omega)]
theorem Good.nodes {t : PT} {s : Sh} (h : Good t s) : (s.places.map fun i => t.ns.getD i default).Perm t.ns := by
  have := h.perm.map (fun i => t.ns.getD i default)
  rwa [range_get] at this
def sumZ : List Int → Int
  | [] => 0
  | a :: l => a + sumZ l
theorem sumZ_app (a b : List Int) : sumZ (a ++ b) = sumZ a + sumZ b := by
  induction a with
  | nil => simp [sumZ]
  | cons x a ih => simp only [List.cons_append, sumZ, ih]; omega
theorem sumZ_perm {a b : List Int} (h : a.Perm b) : sumZ a = sumZ b := by
  induction h with
  | nil => rfl
  | cons x _ ih => simp only [sumZ, ih]
  | swap x y l => simp only [sumZ]; omega
  | trans _ _ h1 h2 => exact h1.trans h2
def kids (n : Nod) : Int := if n.route then n.left + n.right else 0
theorem hang_sum {ns : List Nod} {s : Sh} {a : Int} (h : Hangs ns s a) : a + sumZ (s.places.map fun i => kids (ns.getD i default)) = sumZ (toI s.places) := by
  induction s generalizing a with
  | leaf i =>
    obtain ⟨rfl, n, hn, hr⟩ := h
    have hg : ns.getD i default = n := by rw [List.getD_eq_getElem?_getD, hn]; rfl
    simp only [Sh.places, List.map_cons, List.map_nil, sumZ, toI, hg, kids, hr]
    simp
  | node i l r h1 h2 =>
    obtain ⟨rfl, n, hn, hr, hl, hr'⟩ := h
    have hg : ns.getD i default = n := by rw [List.getD_eq_getElem?_getD, hn]; rfl
    have e1 := h1 hl
    have e2 := h2 hr'
    simp only [toI] at e1 e2 ⊢
    simp only [Sh.places, List.map_cons, List.map_append, sumZ, sumZ_app, hg]
    have : kids n = n.left + n.right := by simp [kids, hr]
    omega
theorem Good.sum {t : PT} {s : Sh} (h : Good t s) : t.root + sumZ (t.ns.map kids) = sumZ (toI (List.range t.ns.length)) := by
  have h1 := hang_sum h.hangs
  have h2 := sumZ_perm (h.perm.map (fun i : Nat => (i : Int)))
  have h3 := sumZ_perm (h.nodes.map kids)
  rw [List.map_map] at h3
  have h1' : t.root + sumZ (s.places.map (kids ∘ fun i => t.ns.getD i default)) = sumZ (s.places.map fun i : Nat => (i : Int)) := h1
  rw [h3, h2] at h1'
  exact h1'
def routesUpto (l : List Nod) (k : Nat) : Nat := (l.take k).countP (·.route)
theorem leaves_pairs {ns : List Nod} {s : Sh} {a : Int} {k : Kb} (h : Fits ns s a k) : (s.leaves.flatMap fun i => (ns.getD i default).l).length = ((s.places.map fun i => ns.getD i default).map fun n => n.l.length).sum := by
  induction s generalizing a k with
  | leaf i => simp [Sh.leaves, Sh.places]
  | node i l r h1 h2 =>
    obtain ⟨rfl, n, hn, hr, hk, hl, hr'⟩ := h
    have hg : ns.getD i default = n := by rw [List.getD_eq_getElem?_getD, hn]; rfl
    have e1 := h1 hl
    have e2 := h2 hr'
    have e3 : n.l.length = 0 := by rw [(route_pure hk).1]; rfl
    simp only [Sh.leaves, Sh.places, List.flatMap_append, List.map_cons, List.map_append, List.length_append, List.sum_cons, List.sum_append, hg, e1, e2, e3]
    omega
theorem sum_perm {a b : List Nat} (h : a.Perm b) : a.sum = b.sum := by
  induction h with
  | nil => rfl
  | cons x _ ih => simp only [List.sum_cons, ih]
  | swap x y l => simp only [List.sum_cons]; omega
  | trans _ _ h1 h2 => exact h1.trans h2
theorem all_pairs {t : PT} {s : Sh} (h : mayT t = some s) : (allT t).length = pairsUpto t.ns t.ns.length := by
  have h1 := leaves_pairs (may_fits h)
  rw [sum_perm ((good_of h).nodes.map _)] at h1
  rw [allT, leavesT, h, pairsUpto, List.take_of_length_le (Nat.le_refl _)]
  exact h1
theorem rises_pw {l : List Pr} : rises l = true ↔ l.Pairwise fun a b => a.k < b.k := by
  rw [List.pairwise_iff_getElem]
  constructor
  · intro h i j hi hj hij
    exact rises_lt h i j _ _ hij (List.getElem?_eq_getElem hi) (List.getElem?_eq_getElem hj)
  · intro h
    exact rises_iff.2 fun j a b ha hb => by
      obtain ⟨h1, rfl⟩ := List.getElem?_eq_some_iff.1 ha
      obtain ⟨h2, rfl⟩ := List.getElem?_eq_some_iff.1 hb
      exact h j (j + 1) h1 h2 (by omega)
theorem leafOk_parts {n : Nod} {k : Kb} : leafOk n k = true ↔ n.key = 0 ∧ n.left = 0 ∧ n.right = 0 ∧ rises n.l = true ∧ -1000000 ≤ n.stat ∧ n.stat ≤ 1000000 ∧ ∀ p ∈ n.l, k.has p.k = true := by
  simp [leafOk]
theorem routeOk_parts {n : Nod} {k : Kb} (h : routeOk n k = true) : n.l = [] ∧ n.stat = 0 ∧ k.has n.key = true ∧ ¬ (k.isLeast = true ∧ n.key = k.least) := by
  simp only [routeOk, Bool.and_eq_true, decide_eq_true_eq, List.isEmpty_iff, Bool.not_eq_true', Bool.and_eq_false_iff, decide_eq_false_iff_not] at h
  obtain ⟨h1, h2, h3, h4⟩ := h
  refine ⟨h1, h2, h3, ?_⟩
  rintro ⟨h5, h6⟩
  rcases h4 with h4 | h4
  · rw [h5] at h4; cases h4
  · exact h4 h6
theorem has_iff {k : Kb} {x : Int} : k.has x = true ↔ (k.isLeast = true → k.least ≤ x) ∧ (k.isMost = true → x < k.most) := by
  unfold Kb.has
  cases k.isLeast <;> cases k.isMost <;> simp
theorem has_lefts {k : Kb} {key x : Int} (hk : k.has key = true) : (k.lefts key).has x = true ↔ k.has x = true ∧ x < key := by
  rw [has_iff] at hk
  rw [has_iff, has_iff]
  simp only [Kb.lefts, forall_const]
  constructor
  · rintro ⟨h1, h2⟩; exact ⟨⟨h1, fun h => by have := hk.2 h; omega⟩, h2⟩
  · rintro ⟨⟨h1, h2⟩, h3⟩; exact ⟨h1, h3⟩
theorem has_rights {k : Kb} {key x : Int} (hk : k.has key = true) : (k.rights key).has x = true ↔ k.has x = true ∧ key ≤ x := by
  rw [has_iff] at hk
  rw [has_iff, has_iff]
  simp only [Kb.rights, forall_const]
  constructor
  · rintro ⟨h1, h2⟩; exact ⟨⟨fun h => by have := hk.1 h; omega, h2⟩, h1⟩
  · rintro ⟨⟨h1, h2⟩, h3⟩; exact ⟨h3, h2⟩
theorem fits_rise {ns : List Nod} {s : Sh} {a : Int} {k : Kb} (h : Fits ns s a k) : (s.leaves.flatMap fun i => (ns.getD i default).l).Pairwise (fun x y => x.k < y.k) ∧ ∀ p ∈ s.leaves.flatMap fun i => (ns.getD i default).l, k.has p.k = true := by
  induction s generalizing a k with
  | leaf i =>
    obtain ⟨rfl, n, hn, hr, hk⟩ := h
    have hg : ns.getD i default = n := by rw [List.getD_eq_getElem?_getD, hn]; rfl
    obtain ⟨_, _, _, h4, _, _, h7⟩ := leafOk_parts.1 hk
    have e : (Sh.leaf i).leaves.flatMap (fun i => (ns.getD i default).l) = n.l := by
      simp only [Sh.leaves, List.flatMap_cons, List.flatMap_nil, List.append_nil, hg]
    rw [e]
    exact ⟨rises_pw.1 h4, h7⟩
  | node i l r h1 h2 =>
    obtain ⟨rfl, n, hn, hr, hk, hl, hr'⟩ := h
    obtain ⟨a1, a2⟩ := h1 hl
    obtain ⟨b1, b2⟩ := h2 hr'
    obtain ⟨_, _, hh, _⟩ := routeOk_parts hk
    simp only [Sh.leaves, List.flatMap_append]
    refine ⟨List.pairwise_append.2 ⟨a1, b1, fun x hx y hy => ?_⟩, fun p hp => ?_⟩
    · have h3 := ((has_lefts hh).1 (a2 x hx)).2
      have h4 := ((has_rights hh).1 (b2 y hy)).2
      omega
    · rcases List.mem_append.1 hp with h5 | h5
      · exact ((has_lefts hh).1 (a2 p h5)).1
      · exact ((has_rights hh).1 (b2 p h5)).1
theorem all_rise (t : PT) : rises (allT t) = true := by
  unfold allT leavesT
  cases h : mayT t with
  | none => rfl
  | some s => exact rises_pw.2 (fits_rise (may_fits h)).1
theorem one_may (l : List Pr) : mayT (oneT l) = some (.leaf 0) := by
  refine may_of_fits (by simp [oneT]) ⟨rfl, _, rfl, rfl, ?_⟩ (by simp [Sh.places]) (fun i hi => by simp [oneT] at hi; simp [Sh.places, hi])
  rw [leafOk_parts]
  refine ⟨rfl, rfl, rfl, ?_, by show (-1000000 : Int) ≤ 0; decide, by show (0 : Int) ≤ 1000000; decide, fun p _ => rfl⟩
  show rises (if rises l then l else []) = true
  cases h : rises l
  · rfl
  · exact h
theorem one_leaves (l : List Pr) : leavesT (oneT l) = [0] := by simp [leavesT, one_may, Sh.leaves]
theorem one_all (l : List Pr) : allT (oneT l) = if rises l then l else [] := by
  simp only [allT, one_leaves, List.flatMap_cons, List.flatMap_nil, List.append_nil]
  rfl
end Go.Proofs.Ytmkodknmknfdkaa
set_option linter.unusedVariables false
set_option linter.unusedSimpArgs false
namespace Go.Proofs.Ytmkodknmknfdkaa
open E
set_option maxRecDepth 4000
end Go.Proofs.Ytmkodknmknfdkaa
set_option linter.unusedVariables false
set_option linter.unusedSimpArgs false
namespace Go.Proofs.Ytmkodknmknfdkaa
open E
def Sh.bd (ns : List Nod) : Sh → Kb → Nat → Kb
  | .leaf _, k, _ => k
  | .node j l r, k, i => if l.places.contains i then l.bd ns (k.lefts (ns.getD j default).key) i else r.bd ns (k.rights (ns.getD j default).key) i
theorem getD_of {ns : List Nod} {i : Nat} {n : Nod} (h : ns[i]? = some n) : ns.getD i default = n := by rw [List.getD_eq_getElem?_getD, h]; rfl
theorem nodup_node {j : Nat} {l r : Sh} (h : (Sh.node j l r).places.Nodup) : j ∉ l.places ∧ j ∉ r.places ∧ l.places.Nodup ∧ r.places.Nodup ∧ ∀ i ∈ l.places, i ∉ r.places := by
  simp only [Sh.places, List.nodup_cons, List.mem_append, List.nodup_append] at h
  obtain ⟨h1, h2, h3, h4⟩ := h
  exact ⟨fun h => h1 (.inl h), fun h => h1 (.inr h), h2, h3, fun i hi hj => h4 i hi i hj rfl⟩
theorem fits_leaf {ns : List Nod} {s : Sh} {a : Int} {k : Kb} {i : Nat} (h : Fits ns s a k) (hn : s.places.Nodup) (hi : i ∈ s.leaves) : ∃ n, ns[i]? = some n ∧ n.route = false ∧ leafOk n (s.bd ns k i) = true := by
  induction s generalizing a k with
  | leaf j =>
    obtain ⟨rfl, n, h1, h2, h3⟩ := h
    simp [Sh.leaves] at hi
    subst hi
    exact ⟨n, h1, h2, h3⟩
  | node j l r h1 h2 =>
    obtain ⟨rfl, n, hj, hr, hk, hl, hr'⟩ := h
    obtain ⟨_, _, d1, d2, d3⟩ := nodup_node hn
    simp only [Sh.bd, getD_of hj]
    rcases List.mem_append.1 hi with h' | h'
    · rw [if_pos (by simpa using leaves_places i h')]
      exact h1 hl d1 h'
    · rw [if_neg (by simpa using fun h3 => d3 i h3 (leaves_places i h'))]
      exact h2 hr' d2 h'
theorem bd_sub {ns : List Nod} {s : Sh} {a : Int} {k : Kb} {i : Nat} {x : Int} (h : Fits ns s a k) (hx : (s.bd ns k i).has x = true) : k.has x = true := by
  induction s generalizing a k with
  | leaf j => exact hx
  | node j l r h1 h2 =>
    obtain ⟨rfl, n, hj, hr, hk, hl, hr'⟩ := h
    obtain ⟨_, _, hh, _⟩ := routeOk_parts hk
    simp only [Sh.bd, getD_of hj] at hx
    split at hx
    · exact ((has_lefts hh).1 (h1 hl hx)).1
    · exact ((has_rights hh).1 (h2 hr' hx)).1
theorem find_leaf {ns : List Nod} {s : Sh} {key : Int} : (s.find ns key).leaf ∈ s.leaves := by
  induction s with
  | leaf j => simp [Sh.find, Sh.leaves]
  | node j l r h1 h2 =>
    simp only [Sh.find, Sh.leaves, List.mem_append]
    split
    · exact .inl h1
    · exact .inr h2
theorem find_iff {ns : List Nod} {s : Sh} {a : Int} {k : Kb} {i : Nat} {key : Int} (h : Fits ns s a k) (hn : s.places.Nodup) (hi : i ∈ s.leaves) (hk : k.has key = true) : (s.find ns key).leaf = i ↔ (s.bd ns k i).has key = true := by
  induction s generalizing a k with
  | leaf j =>
    simp [Sh.leaves] at hi
    subst hi
    simp [Sh.find, Sh.bd, hk]
  | node j l r h1 h2 =>
    obtain ⟨rfl, n, hj, hr, hok, hl, hr'⟩ := h
    obtain ⟨_, _, d1, d2, d3⟩ := nodup_node hn
    obtain ⟨_, _, hh, _⟩ := routeOk_parts hok
    simp only [Sh.bd, Sh.find, getD_of hj]
    by_cases hlt : key < n.key
    · rw [if_pos hlt]
      rcases List.mem_append.1 hi with h' | h'
      · rw [if_pos (by simpa using leaves_places i h')]
        exact h1 hl d1 h' ((has_lefts hh).2 ⟨hk, hlt⟩)
      · rw [if_neg (by simpa using fun h3 => d3 i h3 (leaves_places i h'))]
        constructor
        · intro e
          have e' : (l.find ns key).leaf = i := e
          exact absurd (leaves_places i h') (d3 i (e' ▸ leaves_places _ find_leaf))
        · intro e
          have := ((has_rights hh).1 (bd_sub hr' e)).2
          omega
    · rw [if_neg hlt]
      rcases List.mem_append.1 hi with h' | h'
      · rw [if_pos (by simpa using leaves_places i h')]
        constructor
        · intro e
          have e' : (r.find ns key).leaf = i := e
          exact absurd (e' ▸ leaves_places _ find_leaf) (d3 i (leaves_places i h'))
        · intro e
          have := ((has_lefts hh).1 (bd_sub hl e)).2
          omega
      · rw [if_neg (by simpa using fun h3 => d3 i h3 (leaves_places i h'))]
        exact h2 hr' d2 h' ((has_rights hh).2 ⟨hk, by omega⟩)
theorem findD_eq {t : PT} {s : Sh} (h : mayT t = some s) (key : Int) : findD t key = s.find t.ns key := by simp [findD, findT, h]
theorem leavesT_eq {t : PT} {s : Sh} (h : mayT t = some s) : leavesT t = s.leaves := by simp [leavesT, h]
/-- Each pair is in the leaf of its key. -/
theorem only_find {t : PT} {s : Sh} {i : Nat} {p : Pr} {n : Nod} (h : mayT t = some s) (hi : i ∈ leavesT t) (hn : t.ns[i]? = some n) (hp : p ∈ n.l) : (findD t p.k).leaf = i := by
  rw [leavesT_eq h] at hi
  rw [findD_eq h]
  obtain ⟨m, hm, _, hok⟩ := fits_leaf (may_fits h) (good_of h).nodup hi
  rw [hn] at hm
  cases hm
  exact (find_iff (may_fits h) (good_of h).nodup hi rfl).2 ((leafOk_parts.1 hok).2.2.2.2.2.2 p hp)
theorem hangs_set {ns : List Nod} {s s' : Sh} {a : Int} {i : Nat} {n n' : Nod} (hn : ns[i]? = some n) (hr : n.route = false) (hr' : n'.route = false) (h : Hangs ns s a) (h' : Hangs (ns.set i n') s' a) : s' = s := by
  have key : ∀ (j : Nat) (x : Nod), ns[j]? = some x → ∃ y, (ns.set i n')[j]? = some y ∧ y.route = x.route ∧ (x.route = true → y = x) := by
    intro j x hx
    by_cases hij : i = j
    · subst hij
      rw [hn] at hx
      cases hx
      refine ⟨n', ?_, by rw [hr, hr'], fun h => by rw [hr] at h; cases h⟩
      rw [List.getElem?_set]
      simp [lt_of_get hn]
    · exact ⟨x, by rw [List.getElem?_set_ne hij]; exact hx, rfl, fun _ => rfl⟩
  induction s generalizing a s' with
  | leaf j =>
    obtain ⟨rfl, x, hx, hxr⟩ := h
    obtain ⟨y, hy, hyr, _⟩ := key j x hx
    cases s' with
    | leaf j' => obtain ⟨e, _⟩ := h'; congr 1; omega
    | node j' l r =>
      obtain ⟨e, z, hz, hzr, _⟩ := h'
      obtain rfl : j = j' := by omega
      rw [hy] at hz; cases hz
      rw [hyr, hxr] at hzr; cases hzr
  | node j l r h1 h2 =>
    obtain ⟨rfl, x, hx, hxr, hl, hrr⟩ := h
    obtain ⟨y, hy, hyr, hyx⟩ := key j x hx
    have hyx := hyx hxr
    subst hyx
    cases s' with
    | leaf j' =>
      obtain ⟨e, z, hz, hzr⟩ := h'
      obtain rfl : j = j' := by omega
      rw [hy] at hz; cases hz
      rw [hxr] at hzr; cases hzr
    | node j' l' r' =>
      obtain ⟨e, z, hz, hzr, hl', hr''⟩ := h'
      obtain rfl : j = j' := by omega
      rw [hy] at hz; cases hz
      rw [h1 hl hl', h2 hrr hr'']
theorem fits_set {ns : List Nod} {s : Sh} {a : Int} {k : Kb} {i : Nat} {n' : Nod} (h : Fits ns s a k) (hn : s.places.Nodup) (hi : i ∈ s.leaves) (hr : n'.route = false) : Fits (ns.set i n') s a k ↔ leafOk n' (s.bd ns k i) = true := by
  have out : ∀ {s : Sh} {a : Int} {k : Kb}, i ∉ s.places → Fits ns s a k → Fits (ns.set i n') s a k := by
    intro s
    induction s with
    | leaf j =>
      rintro a k hi ⟨h0, x, hx, h1⟩
      exact ⟨h0, x, by rw [List.getElem?_set_ne (fun e => hi (by simp [Sh.places, e]))]; exact hx, h1⟩
    | node j l r h1 h2 =>
      rintro a k hi ⟨h0, x, hx, hxr, hk, hl, hrr⟩
      simp only [Sh.places, List.mem_cons, List.mem_append, not_or] at hi
      exact ⟨h0, x, by rw [List.getElem?_set_ne hi.1]; exact hx, hxr, hk, h1 hi.2.1 hl, h2 hi.2.2 hrr⟩
  induction s generalizing a k with
  | leaf j =>
    obtain ⟨rfl, x, hx, hxr, hk⟩ := h
    simp [Sh.leaves] at hi
    subst hi
    have e : (ns.set i n')[i]? = some n' := by rw [List.getElem?_set]; simp [lt_of_get hx]
    constructor
    · rintro ⟨_, y, hy, _, hk'⟩
      rw [e] at hy; cases hy
      exact hk'
    · intro h; exact ⟨rfl, n', e, hr, h⟩
  | node j l r h1 h2 =>
    obtain ⟨rfl, x, hx, hxr, hk, hl, hrr⟩ := h
    obtain ⟨c1, c2, d1, d2, d3⟩ := nodup_node hn
    simp only [Sh.bd, getD_of hx]
    have hij : i ≠ j := by
      rintro rfl
      rcases List.mem_append.1 hi with h' | h'
      · exact c1 (leaves_places _ h')
      · exact c2 (leaves_places _ h')
    have e : (ns.set i n')[j]? = some x := by rw [List.getElem?_set_ne hij]; exact hx
    rcases List.mem_append.1 hi with h' | h'
    · have hp := leaves_places i h'
      rw [if_pos (by simpa using hp)]
      refine Iff.trans ?_ (h1 hl d1 h')
      constructor
      · rintro ⟨_, y, hy, _, _, h3, _⟩
        rw [e] at hy; cases hy
        exact h3
      · intro h3; exact ⟨rfl, x, e, hxr, hk, h3, out (d3 i hp) hrr⟩
    · have hp := leaves_places i h'
      have hnl : i ∉ l.places := fun h3 => d3 i h3 hp
      rw [if_neg (by simpa using hnl)]
      refine Iff.trans ?_ (h2 hrr d2 h')
      constructor
      · rintro ⟨_, y, hy, _, _, _, h3⟩
        rw [e] at hy; cases hy
        exact h3
      · intro h3; exact ⟨rfl, x, e, hxr, hk, out hnl hl, h3⟩
theorem may_set {t : PT} {s : Sh} {i : Nat} {n' : Nod} (h : mayT t = some s) (hi : i ∈ leavesT t) (hr : n'.route = false) : mayT ⟨t.root, t.ns.set i n'⟩ = if leafOk n' (s.bd t.ns Kb.all i) then some s else none := by
  rw [leavesT_eq h] at hi
  have hg := good_of h
  have hf := fits_set (n' := n') (may_fits h) hg.nodup hi hr
  obtain ⟨n, hn, hnr, _⟩ := fits_leaf (may_fits h) hg.nodup hi
  cases hok : leafOk n' (s.bd t.ns Kb.all i)
  · cases hm : mayT ⟨t.root, t.ns.set i n'⟩ with
    | none => rfl
    | some s' =>
      have hf' := may_fits hm
      have := hangs_set hn hnr hr hg.hangs hf'.hangs
      subst this
      rw [hf.1 hf'] at hok
      cases hok
  · rw [if_pos rfl]
    exact may_of_fits (by simpa using hg.few) (hf.2 hok) hg.nodup (fun j hj => hg.all j (by simpa using hj))
theorem setT_leaf {t : PT} {s : Sh} {i : Nat} {n : Nod} {l : List Pr} {stat : Int} (h : mayT t = some s) (hi : i ∈ leavesT t) (hn : t.ns[i]? = some n) : setT t (i : Int) l stat = if leafOk { n with l := l, stat := stat } (s.bd t.ns Kb.all i) then some ⟨t.root, t.ns.set i { n with l := l, stat := stat }⟩ else none := by
  have hi' := hi
  rw [leavesT_eq h] at hi'
  obtain ⟨m, hm, hmr, _⟩ := fits_leaf (may_fits h) (good_of h).nodup hi'
  rw [hn] at hm
  cases hm
  have hs := may_set (n' := { n with l := l, stat := stat }) h hi hmr
  cases hok : leafOk { n with l := l, stat := stat } (s.bd t.ns Kb.all i)
  · rw [hok] at hs
    exact set_no5 hn hmr (by rw [hs]; rfl)
  · rw [hok] at hs
    exact set_ok h hn hmr (by rw [hs]; rfl)
theorem withGo_done (p : Pr) (l : List Pr) : withGo p l true = l.filter fun x => decide (x.k ≠ p.k) := by
  induction l with
  | nil => rfl
  | cons x l ih =>
    simp only [withGo, Bool.not_true, Bool.false_and, Bool.false_eq_true, if_false, List.nil_append, Bool.true_or, ih]
    by_cases h : x.k = p.k
    · rw [if_pos h, List.filter_cons_of_neg (by simp [h])]; rfl
    · rw [if_neg h, List.filter_cons_of_pos (by simp [h])]; rfl
theorem mem_with {p x : Pr} {l : List Pr} : x ∈ withT l p ↔ x = p ∨ (x ∈ l ∧ x.k ≠ p.k) := by
  unfold withT
  induction l with
  | nil => simp [withGo]
  | cons y l ih =>
    by_cases h1 : p.k ≤ y.k
    · simp only [withGo, Bool.not_false, Bool.true_and, h1, decide_true, if_true, Bool.false_or, withGo_done, List.mem_append, List.mem_singleton, List.mem_filter, decide_eq_true_eq, List.mem_cons, List.not_mem_nil, or_false]
      by_cases h2 : y.k = p.k
      · simp only [if_pos h2, List.not_mem_nil, false_or]
        constructor
        · rintro (h | ⟨h, h'⟩)
          · exact .inl h
          · exact .inr ⟨.inr h, h'⟩
        · rintro (h | ⟨rfl | h, h'⟩)
          · exact .inl h
          · exact absurd h2 h'
          · exact .inr ⟨h, h'⟩
      · simp only [if_neg h2, List.mem_singleton]
        constructor
        · rintro (h | rfl | ⟨h, h'⟩)
          · exact .inl h
          · exact .inr ⟨.inl rfl, h2⟩
          · exact .inr ⟨.inr h, h'⟩
        · rintro (h | ⟨rfl | h, h'⟩)
          · exact .inl h
          · exact .inr (.inl rfl)
          · exact .inr (.inr ⟨h, h'⟩)
    · have h2 : y.k ≠ p.k := by omega
      simp only [withGo, Bool.not_false, Bool.true_and, h1, decide_false, Bool.false_eq_true, if_false, Bool.false_or, List.nil_append, if_neg h2, List.mem_append, List.mem_singleton, ih, List.mem_cons, List.not_mem_nil, or_false]
      constructor
      · rintro (rfl | h | ⟨h, h'⟩)
        · exact .inr ⟨.inl rfl, h2⟩
        · exact .inl h
        · exact .inr ⟨.inr h, h'⟩
      · rintro (h | ⟨rfl | h, h'⟩)
        · exact .inr (.inl h)
        · exact .inl rfl
        · exact .inr (.inr ⟨h, h'⟩)
theorem with_pw {p : Pr} {l : List Pr} (h : l.Pairwise fun a b => a.k < b.k) : (withT l p).Pairwise fun a b => a.k < b.k := by
  induction l with
  | nil => simp [withT, withGo]
  | cons y l ih =>
    obtain ⟨h1, h2⟩ := List.pairwise_cons.1 h
    have hin : ∀ x ∈ withGo p l false, x = p ∨ (x ∈ l ∧ x.k ≠ p.k) := fun x hx => mem_with.1 hx
    unfold withT
    by_cases h3 : p.k ≤ y.k
    · simp only [withGo, Bool.not_false, Bool.true_and, h3, decide_true, if_true, Bool.false_or, withGo_done]
      have hf := List.Pairwise.filter (fun x : Pr => decide (x.k ≠ p.k)) h2
      by_cases h4 : y.k = p.k
      · rw [if_pos h4]
        show List.Pairwise _ (p :: l.filter fun x : Pr => decide (x.k ≠ p.k))
        refine List.pairwise_cons.2 ⟨fun x hx => ?_, hf⟩
        have := h1 x (List.mem_filter.1 hx).1
        omega
      · rw [if_neg h4]
        show List.Pairwise _ (p :: y :: l.filter fun x : Pr => decide (x.k ≠ p.k))
        refine List.pairwise_cons.2 ⟨fun x hx => ?_, List.pairwise_cons.2 ⟨fun x hx => h1 x (List.mem_filter.1 hx).1, hf⟩⟩
        rcases List.mem_cons.1 hx with rfl | hx
        · omega
        · have := h1 x (List.mem_filter.1 hx).1
          omega
    · have h4 : y.k ≠ p.k := by omega
      simp only [withGo, Bool.not_false, Bool.true_and, h3, decide_false, Bool.false_eq_true, if_false, Bool.false_or, List.nil_append, if_neg h4]
      show List.Pairwise _ (y :: withGo p l false)
      refine List.pairwise_cons.2 ⟨fun x hx => ?_, ih h2⟩
      rcases hin x hx with rfl | ⟨hx, _⟩
      · omega
      · exact h1 x hx
theorem with_len (p : Pr) (l : List Pr) : (withT l p).length ≤ l.length + 1 := by
  unfold withT
  induction l with
  | nil => simp [withGo]
  | cons y l ih =>
    by_cases h1 : p.k ≤ y.k
    · simp only [withGo, Bool.not_false, Bool.true_and, h1, decide_true, if_true, Bool.false_or, withGo_done]
      have := List.length_filter_le (fun x : Pr => decide (x.k ≠ p.k)) l
      split <;> simp only [List.length_append, List.length_cons, List.length_nil] <;> omega
    · simp only [withGo, Bool.not_false, Bool.true_and, h1, decide_false, Bool.false_eq_true, if_false, Bool.false_or, List.nil_append]
      split <;> simp <;> omega
end Go.Proofs.Ytmkodknmknfdkaa
set_option linter.unusedVariables false
set_option linter.unusedSimpArgs false
namespace Go.Proofs.Ytmkodknmknfdkaa
open E
def Sh.straight : Sh → Nat → Sh
  | .leaf _, b => .leaf b
  | .node _ l r, b => .node b (l.straight (b + 1)) (r.straight (b + 1 + l.size))
theorem straight_size (s : Sh) (b : Nat) : (s.straight b).size = s.size := by
  induction s generalizing b with
  | leaf i => rfl
  | node i l r h1 h2 => simp [Sh.straight, Sh.size, h1, h2]
theorem straight_places (s : Sh) (b : Nat) : (s.straight b).places = List.range' b s.size := by
  induction s generalizing b with
  | leaf i => rfl
  | node i l r h1 h2 =>
    simp only [Sh.straight, Sh.places, Sh.size, h1, h2]
    rw [show 1 + l.size + r.size = (l.size + r.size) + 1 by omega, List.range'_succ, ← List.range'_append_1]
theorem fits_lay {ns : List Nod} {s : Sh} {a : Int} {k : Kb} (h : Fits ns s a k) : ∀ (b : Nat) (pre post : List Nod), pre.length = b → Fits (pre ++ s.lay ns b ++ post) (s.straight b) (b : Int) k := by
  induction s generalizing a k with
  | leaf i =>
    obtain ⟨rfl, n, hn, hr, hk⟩ := h
    rintro b pre post rfl
    refine ⟨rfl, n, ?_, hr, hk⟩
    simp only [Sh.lay, getD_of hn]
    simp
  | node i l r h1 h2 =>
    obtain ⟨rfl, n, hn, hr, hk, hl, hr'⟩ := h
    rintro b pre post rfl
    simp only [Sh.lay, getD_of hn, Sh.straight]
    refine ⟨rfl, { n with left := ((pre.length + 1 : Nat) : Int), right := ((pre.length + 1 + l.size : Nat) : Int) }, by simp, hr, hk, ?_, ?_⟩
    · have := h1 hl (pre.length + 1) (pre ++ [{ n with left := ((pre.length + 1 : Nat) : Int), right := ((pre.length + 1 + l.size : Nat) : Int) }]) (r.lay ns (pre.length + 1 + l.size) ++ post) (by simp)
      simpa [List.append_assoc] using this
    · have := h2 hr' (pre.length + 1 + l.size) (pre ++ { n with left := ((pre.length + 1 : Nat) : Int), right := ((pre.length + 1 + l.size : Nat) : Int) } :: l.lay ns (pre.length + 1)) post (by simp [Sh.lay_length]; omega)
      simpa [List.append_assoc] using this
theorem lay_lay {ns : List Nod} {s : Sh} {a : Int} {k : Kb} (h : Fits ns s a k) : ∀ (b : Nat) (pre post : List Nod), pre.length = b → (s.straight b).lay (pre ++ s.lay ns b ++ post) b = s.lay ns b := by
  induction s generalizing a k with
  | leaf i =>
    rintro b pre post rfl
    simp [Sh.straight, Sh.lay]
  | node i l r h1 h2 =>
    obtain ⟨rfl, n, hn, hr, hk, hl, hr'⟩ := h
    rintro b pre post rfl
    have e1 := h1 hl (pre.length + 1) (pre ++ [{ n with left := ((pre.length + 1 : Nat) : Int), right := ((pre.length + 1 + l.size : Nat) : Int) }]) (r.lay ns (pre.length + 1 + l.size) ++ post) (by simp)
    have e2 := h2 hr' (pre.length + 1 + l.size) (pre ++ { n with left := ((pre.length + 1 : Nat) : Int), right := ((pre.length + 1 + l.size : Nat) : Int) } :: l.lay ns (pre.length + 1)) post (by simp [Sh.lay_length]; omega)
    simp only [List.append_assoc, List.cons_append, List.nil_append] at e1 e2
    simp only [Sh.lay, getD_of hn, Sh.straight, straight_size, List.append_assoc, List.cons_append]
    rw [e1, e2]
    simp [List.getD_eq_getElem?_getD]
theorem plain_may {t : PT} {s : Sh} (h : mayT t = some s) : plainD t = ⟨0, s.lay t.ns 0⟩ ∧ mayT (plainD t) = some (s.straight 0) ∧ plainD (plainD t) = plainD t := by
  have hg := good_of h
  have hp : plainD t = ⟨0, s.lay t.ns 0⟩ := by simp [plainD, plainT, h]
  have hf := fits_lay (may_fits h) 0 [] [] rfl
  have hl := lay_lay (may_fits h) 0 [] [] rfl
  simp only [List.nil_append, List.append_nil] at hf hl
  have hm : mayT ⟨0, s.lay t.ns 0⟩ = some (s.straight 0) := by
    refine may_of_fits (by rw [Sh.lay_length, hg.size]; exact hg.few) hf ?_ fun i hi => ?_
    · rw [straight_places]; exact List.nodup_range'
    · rw [straight_places, List.mem_range'_1]
      rw [Sh.lay_length] at hi
      omega
  refine ⟨hp, by rw [hp]; exact hm, ?_⟩
  rw [hp]
  simp [plainD, plainT, hm, hl]
/-- All pairs, from the plain form. -/
theorem lay_pairs {ns : List Nod} {s : Sh} {a : Int} {k : Kb} (h : Fits ns s a k) (b : Nat) : (s.leaves.flatMap fun i => (ns.getD i default).l) = (s.lay ns b).flatMap (·.l) := by
  induction s generalizing a k b with
  | leaf i => simp [Sh.leaves, Sh.lay]
  | node i l r h1 h2 =>
    obtain ⟨rfl, n, hn, hr, hk, hl, hr'⟩ := h
    simp only [Sh.leaves, Sh.lay, List.flatMap_append, List.flatMap_cons, getD_of hn]
    rw [(route_pure hk).1, h1 hl (b + 1), h2 hr' (b + 1 + l.size)]
    simp
theorem all_plain (t : PT) : allT t = (plainD t).ns.flatMap (·.l) := by
  unfold allT leavesT
  cases h : mayT t with
  | none => simp [plainD, plainT, h]
  | some s => rw [(plain_may h).1]; exact lay_pairs (may_fits h) 0
def Sh.ren (σ : Nat → Nat) : Sh → Sh
  | .leaf i => .leaf (σ i)
  | .node i l r => .node (σ i) (l.ren σ) (r.ren σ)
def renN (σ : Nat → Nat) (n : Nod) : Nod := if n.route then { n with left := (σ n.left.toNat : Int), right := (σ n.right.toNat : Int) } else n
theorem ren_places (σ : Nat → Nat) (s : Sh) : (s.ren σ).places = s.places.map σ := by
  induction s with
  | leaf i => rfl
  | node i l r h1 h2 => simp [Sh.ren, Sh.places, h1, h2]
theorem ren_size (σ : Nat → Nat) (s : Sh) : (s.ren σ).size = s.size := by rw [← Sh.size_places, ren_places, List.length_map, Sh.size_places]
theorem Fits.at0 {ns : List Nod} {s : Sh} {a : Int} {k : Kb} (h : Fits ns s a k) : a = (s.at_ : Int) := by
  cases s with
  | leaf i => exact h.1
  | node i l r => exact h.1
theorem fits_ren {ns ns' : List Nod} {σ : Nat → Nat} {s : Sh} {a : Int} {k : Kb} (h : Fits ns s a k) (hns : ∀ (i : Nat) (n : Nod), ns[i]? = some n → ns'[σ i]? = some (renN σ n)) : Fits ns' (s.ren σ) (σ a.toNat : Int) k ∧ ∀ b, (s.ren σ).lay ns' b = s.lay ns b := by
  induction s generalizing a k with
  | leaf i =>
    obtain ⟨rfl, n, hn, hr, hk⟩ := h
    have hx := hns i n hn
    have e : renN σ n = n := by simp [renN, hr]
    rw [e] at hx
    exact ⟨⟨rfl, n, hx, hr, hk⟩, fun b => by simp only [Sh.ren, Sh.lay, getD_of hx, getD_of hn]⟩
  | node i l r h1 h2 =>
    obtain ⟨rfl, n, hn, hr, hk, hl, hr'⟩ := h
    have hx := hns i n hn
    have e : renN σ n = { n with left := (σ n.left.toNat : Int), right := (σ n.right.toNat : Int) } := by simp [renN, hr]
    rw [e] at hx
    obtain ⟨a1, a2⟩ := h1 hl
    obtain ⟨b1, b2⟩ := h2 hr'
    refine ⟨⟨rfl, _, hx, hr, hk, a1, b1⟩, fun b => ?_⟩
    simp only [Sh.ren, Sh.lay, getD_of hx, getD_of hn, ren_size, a2, b2]
theorem ren_may {t u : PT} {σ : Nat → Nat} {s : Sh} (h : mayT t = some s) (hN : u.ns.length = t.ns.length) (hroot : u.root = (σ t.root.toNat : Int)) (hns : ∀ (i : Nat) (n : Nod), t.ns[i]? = some n → u.ns[σ i]? = some (renN σ n))
    (hinj : ∀ i j, i < t.ns.length → j < t.ns.length → σ i = σ j → i = j) : mayT u = some (s.ren σ) ∧ plainD u = plainD t := by
  have hg := good_of h
  obtain ⟨hf, hl⟩ := fits_ren (may_fits h) hns
  have hnd : (s.ren σ).places.Nodup := by
    rw [ren_places]
    have : ∀ l : List Nat, l.Nodup → (∀ i ∈ l, i < t.ns.length) → (l.map σ).Nodup := by
      intro l
      induction l with
      | nil => simp
      | cons x l ih =>
        intro h1 h2
        obtain ⟨h3, h4⟩ := List.nodup_cons.1 h1
        rw [List.map_cons, List.nodup_cons]
        refine ⟨fun hm => ?_, ih h4 fun i hi => h2 i (List.mem_cons_of_mem _ hi)⟩
        obtain ⟨y, hy, e⟩ := List.mem_map.1 hm
        have := hinj y x (h2 y (List.mem_cons_of_mem _ hy)) (h2 x (by simp)) e
        subst this
        exact h3 hy
    exact this _ hg.nodup hg.lt
  have hm : mayT u = some (s.ren σ) := by
    refine may_of_fits (by rw [hN]; exact hg.few) (by rw [hroot]; exact hf) hnd fun i hi => ?_
    by_cases hi' : i ∈ (s.ren σ).places
    · exact hi'
    · have := nodup_len (N := u.ns.length) (l := i :: (s.ren σ).places) (List.nodup_cons.2 ⟨hi', hnd⟩) (fun j hj => by
        rcases List.mem_cons.1 hj with h | h
        · subst h; exact hi
        · exact hf.lt j h)
      rw [List.length_cons, Sh.size_places, ren_size, hg.size] at this
      omega
  refine ⟨hm, ?_⟩
  rw [(plain_may h).1]
  simp [plainD, plainT, hm, hl]
theorem turn_inj {n k i j : Nat} (hi : i < n) (hj : j < n) (h : (i + k) % n = (j + k) % n) : i = j := by
  have h1 := Nat.div_add_mod (i + k) n
  have h2 := Nat.div_add_mod (j + k) n
  rw [h] at h1
  rcases Nat.lt_trichotomy ((i + k) / n) ((j + k) / n) with h3 | h3 | h3
  · have : n * ((i + k) / n) + n ≤ n * ((j + k) / n) := by rw [← Nat.mul_succ]; exact Nat.mul_le_mul_left n h3
    omega
  · rw [h3] at h1; omega
  · have : n * ((j + k) / n) + n ≤ n * ((i + k) / n) := by rw [← Nat.mul_succ]; exact Nat.mul_le_mul_left n h3
    omega
theorem fits_kids {ns : List Nod} {s : Sh} {a : Int} {k : Kb} (h : Fits ns s a k) : ∀ i ∈ s.places, ∀ n, ns[i]? = some n → n.route = true → 0 ≤ n.left ∧ n.left < (ns.length : Int) ∧ 0 ≤ n.right ∧ n.right < (ns.length : Int) := by
  induction s generalizing a k with
  | leaf j =>
    obtain ⟨rfl, m, hm, hr, _⟩ := h
    intro i hi n hn hr'
    simp [Sh.places] at hi
    subst hi
    rw [hn] at hm
    cases hm
    rw [hr] at hr'
    cases hr'
  | node j l r h1 h2 =>
    obtain ⟨rfl, m, hm, hr, hk, hl, hrr⟩ := h
    intro i hi n hn hr'
    simp only [Sh.places, List.mem_cons, List.mem_append] at hi
    rcases hi with rfl | hi | hi
    · rw [hn] at hm
      cases hm
      have e1 := hl.at0
      have e2 := hrr.at0
      have l1 := hl.lt l.at_ (by cases l <;> simp [Sh.places, Sh.at_])
      have l2 := hrr.lt r.at_ (by cases r <;> simp [Sh.places, Sh.at_])
      omega
    · exact h1 hl i hi n hn hr'
    · exact h2 hrr i hi n hn hr'
def turnN (n k : Nat) (x : Nod) : Nod := if x.route then { x with left := (x.left + (k : Int)) % (n : Int), right := (x.right + (k : Int)) % (n : Int) } else x
theorem turn_cast {a : Int} (h : 0 ≤ a) {k n : Nat} : (a + (k : Int)) % (n : Int) = (((a.toNat + k) % n : Nat) : Int) := by
  obtain ⟨m, rfl⟩ := Int.eq_ofNat_of_zero_le h
  simp
/-- The plain tree, its nodes at other places. -/
theorem turned {t u : PT} {s : Sh} {k : Nat} (h : mayT t = some s) (hN : u.ns.length = (plainD t).ns.length) (hroot : u.root = ((k % (plainD t).ns.length : Nat) : Int))
    (hns : ∀ (i : Nat) (x : Nod), (plainD t).ns[i]? = some x → u.ns[(i + k) % (plainD t).ns.length]? = some (turnN (plainD t).ns.length k x)) : (mayT u).isSome = true ∧ plainD u = plainD t := by
  obtain ⟨hp, hm, hpp⟩ := plain_may h
  have hr0 : (plainD t).root = 0 := plainD_root t
  have key := ren_may (σ := fun i => (i + k) % (plainD t).ns.length) hm hN (by rw [hroot, hr0]; simp) (fun i x hx => by
    rw [hns i x hx]
    congr 1
    unfold turnN renN
    cases hr : x.route
    · rfl
    · have hi := (good_of hm).all i (lt_of_get hx)
      obtain ⟨k1, k2, k3, k4⟩ := fits_kids (may_fits hm) i hi x hx hr
      simp only [if_true]
      rw [turn_cast k1, turn_cast k3]) (fun i j hi hj h => turn_inj hi hj h)
  refine ⟨by rw [key.1]; rfl, ?_⟩
  rw [key.2, hpp]
end Go.Proofs.Ytmkodknmknfdkaa
set_option linter.unusedVariables false
set_option linter.unusedSimpArgs false
namespace Go.Proofs.Ytmkodknmknfdkaa
open E
set_option maxRecDepth 4000
theorem en26 : Enters Try.prog 26 := Enters.mk' Try.func26 rfl rfl
theorem en27 : Enters Try.prog 27 := Enters.mk' Try.func27 rfl rfl
theorem en32 : Enters Try.prog 32 := Enters.mk' Try.func32 rfl rfl
end Go.Proofs.Ytmkodknmknfdkaa
set_option linter.unusedVariables false
set_option linter.unusedSimpArgs false
namespace Go.Proofs.Ytmkodknmknfdkaa
open E Go
theorem E.Quiet.loud {P : Program} {op : Op} {ty : TypeId} {n : Nat} {env : E.Env} {Γ : List SProp} {L : E.Loc} {v : Value} (h : E.Quiet P op ty n env Γ L v) : E.Loud P op ty n env Γ L (fun v' Γ' L' => v' = v ∧ Γ' = Γ ∧ L' = L) :=
  E.Loud.ofRun fun X d pos aft g a w H h1 h2 h3 => ⟨v, w, H, Γ, L, h X d pos aft g a w H h1 h2 h3, ⟨rfl, rfl, rfl⟩, Hp.le_refl H, h2, h3⟩
theorem wrapU (n : Int) : IntKind.u64.wrap n = n % 18446744073709551616 := by simp [IntKind.wrap, IntKind.bits, IntKind.signed]
/-- One of so many places. -/
theorem pick {a : Int} {n : Nat} (h0 : 0 < n) (h1 : n ≤ 4611686018427387904) : ∃ i : Nat, i < n ∧ IntKind.i64.wrap (Int.tmod (IntKind.u64.wrap a) (IntKind.u64.wrap (n : Int))) = (i : Int) ∧ IntKind.u64.wrap (n : Int) ≠ 0 := by
  have e1 : IntKind.u64.wrap (n : Int) = (n : Int) := by rw [wrapU]; omega
  obtain ⟨A, hA⟩ := Int.eq_ofNat_of_zero_le (show 0 ≤ IntKind.u64.wrap a by rw [wrapU]; omega)
  have h2 : A % n < n := Nat.mod_lt _ h0
  refine ⟨A % n, h2, ?_, by rw [e1]; omega⟩
  rw [e1, hA]
  have e2 : Int.tmod (A : Int) (n : Int) = ((A % n : Nat) : Int) := rfl
  rw [e2]
  exact wrapI (by omega) (by omega)
def zeroN : Nd := ⟨false, 0, 0, 0, ⟨none, 0, []⟩, 0⟩
theorem p_get {u : Tr} {t : PT} {i : Nat} {n : Nod} (h : u.p = t) (hn : t.ns[i]? = some n) : ∃ y, u.ns.l[i]? = some y ∧ y.p = n := by
  subst h
  have hn' : (u.ns.l.map Nd.p)[i]? = some n := hn
  rw [List.getElem?_map] at hn'
  cases hy : u.ns.l[i]? with
  | none => rw [hy] at hn'; cases hn'
  | some y => rw [hy] at hn'; exact ⟨y, rfl, Option.some.inj hn'⟩
theorem p_len {u : Tr} {t : PT} (h : u.p = t) : u.ns.l.length = t.ns.length := by subst h; simp [Tr.p]
theorem small_of_p {u t : Tr} (h : u.p = t.p) (hs : smallP t.ns.l) : smallP u.ns.l := small_p (congrArg PT.ns h) hs
theorem pairs_mono (l : List Nod) : ∀ k, pairsUpto l k ≤ pairsUpto l l.length := fun k => by
  unfold pairsUpto
  rw [List.take_of_length_le (Nat.le_refl _)]
  conv => rhs; rw [← List.take_append_drop k l]
  rw [List.map_append, List.sum_append]
  omega
theorem leaves_pos (s : Sh) : 0 < s.leaves.length := by
  induction s with
  | leaf i => simp [Sh.leaves]
  | node i l r h1 h2 => simp only [Sh.leaves, List.length_append]; omega
theorem find_mem {t : PT} {s : Sh} (h : mayT t = some s) (key : Int) : (findD t key).leaf ∈ leavesT t := by rw [findD_eq h, leavesT_eq h]; exact find_leaf
theorem find_lt {t : PT} {s : Sh} (h : mayT t = some s) (key : Int) : (findD t key).leaf < t.ns.length := leavesT_lt (find_mem h key)
def PairsEndF (l : List Pr) (v : Value) (Γ : List SProp) (M : E.Loc) : Prop := ∃ u : Sl Pr, v = u.val ∧ Γ = [prsP u] ∧ M = [] ∧ u.l = l
def IntsEndF (l : List Int) (v : Value) (Γ : List SProp) (M : E.Loc) : Prop := ∃ u : Sl Int, v = u.val ∧ Γ = [intsP u] ∧ M = [] ∧ u.l = l
/-- Where the turned tree's nodes lie, as far as they are laid. -/
def Turn (p : Tr) (k : Nat) (o : List Nd) (i : Nat) : Prop := o.length = p.ns.l.length ∧ ∀ (j : Nat) (y : Nd), j < i → p.ns.l[j]? = some y → (o.map Nd.p)[(j + k) % p.ns.l.length]? = some (turnN p.ns.l.length k y.p)
theorem Turn.step {p : Tr} {k i : Nat} {o : List Nd} {y m : Nd} (h : Turn p k o i) (hy : p.ns.l[i]? = some y) (hm : m.p = turnN p.ns.l.length k y.p) : Turn p k (o.set ((i + k) % p.ns.l.length) m) (i + 1) := by
  obtain ⟨h1, h2⟩ := h
  have hi := lt_of_get hy
  have hlt : (i + k) % p.ns.l.length < o.length := by rw [h1]; exact Nat.mod_lt _ (by omega)
  refine ⟨by simpa using h1, fun j z hj hz => ?_⟩
  rw [List.map_set]
  by_cases hji : j = i
  · subst hji
    rw [hy] at hz
    cases hz
    rw [List.getElem?_set_self (by simpa using hlt), hm]
  · rw [List.getElem?_set_ne (fun e => hji (turn_inj (lt_of_get hz) hi e.symm))]
    exact h2 j z (by omega) hz
theorem Turn.done {p u : Tr} {t : PT} {k : Nat} {s : Sh} (hs : mayT t = some s) (hp : p.p = plainD t) (h : Turn p k u.ns.l p.ns.l.length) (hr : u.root = ((k % p.ns.l.length : Nat) : Int)) : (mayT u.p).isSome = true ∧ plainD u.p = plainD t := by
  have hl : (plainD t).ns.length = p.ns.l.length := (p_len hp).symm
  refine turned hs (by rw [hl]; show (u.ns.l.map Nd.p).length = _; rw [List.length_map]; exact h.1) (by rw [hl]; exact hr) fun i x hx => ?_
  rw [hl]
  have hx' : p.p.ns[i]? = some x := by rw [hp]; exact hx
  have hx2 : (p.ns.l.map Nd.p)[i]? = some x := hx'
  rw [List.getElem?_map] at hx2
  cases hy : p.ns.l[i]? with
  | none => rw [hy] at hx2; cases hx2
  | some y =>
    rw [hy] at hx2
    cases hx2
    exact h.2 i y (lt_of_get hy) hy
theorem same_true {a b : PT} (h1 : (mayT a).isSome = true) (h2 : (mayT b).isSome = true) (h : plainD b = plainD a) : sameT a b = true := by
  unfold sameT
  rw [h1, h2, h]
  simp
end Go.Proofs.Ytmkodknmknfdkaa
set_option linter.unusedVariables false
set_option linter.unusedSimpArgs false
namespace Go.Proofs.Ytmkodknmknfdkaa
open E
set_option maxRecDepth 4000
theorem en29 : Enters Try.prog 29 := Enters.mk' Try.func29 rfl rfl
theorem en31 : Enters Try.prog 31 := Enters.mk' Try.func31 rfl rfl
theorem leaves28f (t : Tr) : Con Try.prog 28 [t.val] [ndsP t.ns, psP t.ns.l] [] (IntsEndF (toI (leavesT t.p))) := by
  refine Con.body 10 Try.func28 rfl Try.ntmps28 rfl fun X H₀ L₀ => ?_
  refine At.seq ?_
  refine At.region ?_
  refine At.loud (l_box rfl) rfl ?_
  rintro _ _ _ ⟨b1, rfl, rfl, rfl⟩
  refine At.freeze 0 (φ := blk b1 _) rfl (fun _ h => blk_def.2 ⟨_, _, h⟩) ?_
  refine At.skim 1 rfl rfl ?_
  refine At.nil ?_
  refine At.then ?_
  refine At.seq ?_
  refine At.seq ?_
  refine At.region ?_
  refine At.quiet (q_loadS t24 rfl (RdS.blk (.head _) (m := 2) rfl) rfl) rfl ?_
  refine At.call en21 rfl (may21 _) (fun _ h => ⟨h.2.2.1, h.2.2.2.1, trivial⟩) (List.Perm.refl _) rfl ?_
  rintro _ _ _ ⟨rfl, rfl, rfl⟩
  refine At.skim 1 rfl rfl ?_
  refine At.nil ?_
  refine At.then ?_
  refine At.cond rfl (fun hm => ?_) (fun hm => ?_)
  · skip
    refine At.know (intsP ⟨none, 0, []⟩) (fun _ h => sl_nil _ _ _ (Nat.zero_le _)) ?_
    refine At.seq ?_
    refine At.region ?_
    refine At.skim 1 rfl rfl ?_
    refine At.nil ?_
    refine At.then ?_
    refine At.ret ?_
    refine At.thenRet ?_
    exact At.results (Γr := [_]) (M := []) rfl (RVals.cons (RVal.tmp rfl) RVals.nil) (.tail _ (.tail _ (.head _))) (fun _ h => ⟨h.1, trivial⟩) (.refl _) ⟨⟨none, 0, []⟩, rfl, rfl, rfl, by rw [leavesT, none_of (not_t hm)]; rfl⟩
  · skip
    obtain ⟨s, hs⟩ := Option.isSome_iff_exists.1 (not_f hm)
    have hg := good_of hs
    have hsz : s.size ≤ 2000 := by have h1 := hg.size; have h2 := hg.few; omega
    refine At.nilSeg ?_
    refine At.skip ?_
    refine At.then ?_
    refine At.seq ?_
    refine At.region ?_
    refine At.quiet (q_loadS t24 rfl (RdS.blk (.head _) (m := 2) rfl) rfl) rfl ?_
    refine At.fld s24 t3 rfl rfl rfl (Rd.blk (.head _) rfl) rfl rfl ?_
    refine At.call en70 rfl (leaves70 t s t.root hg.hangs [] none 0 [] (Own.nil _ _) (by simp; omega)) (fun _ h => ⟨h.2.2.1, h.2.2.2.1, trivial⟩) (List.Perm.refl _) rfl ?_
    rintro _ _ _ ⟨a1, c1, M1, rfl, rfl, rfl, hO⟩
    refine At.freezeOwn 0 (show Own 3 1 ((toI s.leaves).map rowI) a1 c1 M1 by simpa using hO) rfl ?_
    refine At.skim 1 rfl rfl ?_
    refine At.nil ?_
    refine At.then ?_
    refine At.ret ?_
    exact At.results (Γr := [_]) (M := []) rfl (RVals.cons (RVal.tmp rfl) RVals.nil) (.tail _ (.tail _ (.head _))) (fun _ h => ⟨h.1, trivial⟩) (.refl _) ⟨⟨a1, c1, toI s.leaves⟩, by simp [Sl.val, resVal], rfl, rfl, by rw [leavesT, hs]⟩
theorem all29f (t : Tr) (hsm : smallP t.ns.l) : Con Try.prog 29 [t.val] [ndsP t.ns, psP t.ns.l] [] (PairsEndF (allT t.p)) := by
  refine Con.body 23 Try.func29 rfl Try.ntmps29 rfl fun X H₀ L₀ => ?_
  refine At.lenOf (hs := (.tail _ (.head _))) fun hlen => ?_
  rw [List.length_map] at hlen
  refine At.seq ?_
  refine At.region ?_
  refine At.loud (l_box rfl) rfl ?_
  rintro _ _ _ ⟨b1, rfl, rfl, rfl⟩
  refine At.freeze 0 (φ := blk b1 _) rfl (fun _ h => blk_def.2 ⟨_, _, h⟩) ?_
  refine At.skim 1 rfl rfl ?_
  refine At.nil ?_
  refine At.then ?_
  refine At.seq ?_
  refine At.region ?_
  refine At.skim 1 rfl rfl ?_
  refine At.nil ?_
  refine At.then ?_
  refine At.seq ?_
  refine At.seq ?_
  refine At.region ?_
  refine At.quiet (q_loadS t24 rfl (RdS.blk (.head _) (m := 2) rfl) rfl) rfl ?_
  refine At.call en28 rfl (leaves28f _) (fun _ h => ⟨h.2.2.1, h.2.2.2.1, trivial⟩) (List.Perm.refl _) rfl ?_
  rintro _ _ _ ⟨u, rfl, rfl, rfl, hul⟩
  refine At.quiet (q_len Try.underlying37 rfl) rfl ?_
  have hll := leavesT_len t.p
  have hul2 : u.l.length = (leavesT t.p).length := by rw [hul, toI_length]
  refine At.nilSeg ?_
  refine At.skim 1 rfl rfl ?_
  refine At.nil ?_
  refine At.then ?_
  refine At.block ?_
  refine At.loopK (ι := Nat × Option Addr × Nat × Seg) [3, 5, 9, 10, 11, 12, 13, 14, 15, 16, 17, 18, 19, 20, 21] (fun ⟨k, a, c, M⟩ => [(9, .int .i64 (k : Int)), (3, .slice a (outs t.p k).length c)]) (fun ⟨k, a, c, M⟩ => []) (fun ⟨k, a, c, M⟩ => [M]) _ (fun ⟨k, a, c, M⟩ => k ≤ u.l.length ∧ Own 50 2 ((outs t.p k).map rowP) a c M ∧ (outs t.p k).length ≤ k * 1000000) (fun ⟨k, a, c, M⟩ => u.l.length - k) (0, none, 0, []) ⟨Nat.zero_le _, Own.nil _ _, by simp [outs]⟩ ⟨rfl, rfl, trivial⟩ (fun _ _ => trivial) (.cons_cons _ (.refl _)) ?_
  intro i0 hI0
  obtain ⟨k, a, c, M⟩ := i0
  obtain ⟨hkl, hO, hob⟩ := hI0
  refine At.seq ?_
  refine At.region ?_
  refine At.skim 1 rfl rfl ?_
  refine At.nil ?_
  refine At.then ?_
  refine At.seq ?_
  refine At.if rfl (fun hk => ?_) (fun hk => ?_)
  · skip
    obtain ⟨i, hi⟩ := get_of_lt (l := leavesT t.p) (i := k) (by omega)
    have hui : u.l[k]? = some (i : Int) := by rw [hul]; exact toI_get hi
    obtain ⟨x, hx, _, hxg⟩ := Tr.get (leavesT_lt (List.mem_of_getElem? hi))
    have hxs := hsm x (List.mem_of_getElem? hx)
    have hst := outs_step hi hxg
    refine At.know (prsP x.ps) (fun _ h => psP_get h.2.2.2.2.1 hx) ?_
    refine At.skip ?_
    refine At.then ?_
    refine At.seq ?_
    refine At.block ?_
    refine At.seq ?_
    refine At.region ?_
    refine At.quiet (q_index Try.underlying37 t3 rfl (.tail _ (.head _)) (by simp) rfl rfl (lt_of_get hui)) rfl ?_
    refine At.quiet (q_load t3 rfl (Rd.sl0 (.tail _ (.head _)) (map_get hui) rfl)) rfl ?_
    refine At.skim 1 rfl rfl ?_
    refine At.nil ?_
    refine At.then ?_
    refine At.region ?_
    refine At.skim 1 rfl rfl ?_
    refine At.fld s24 t22 rfl rfl rfl (Rd.blk (.tail _ (.tail _ (.head _))) rfl) rfl rfl ?_
    refine At.skim 1 rfl rfl ?_
    refine At.quiet (q_index Try.underlying22 t33 rfl (.tail _ (.tail _ (.tail _ (.tail _ (.head _))))) (by simp) rfl rfl (lt_of_get hx)) rfl ?_
    refine At.fld s33 t31 rfl rfl rfl (Rd.sl (.tail _ (.tail _ (.tail _ (.tail _ (.head _))))) (map_get hx) rfl) rfl rfl ?_
    refine At.loud (l_appendSl rfl Try.underlying31 t50 rfl rfl hO (by simp) (i := 0) rfl (.head _) (by simp) (one_map (fun _ => rfl) _) rfl rfl (by omega) (by unfold maxLen; omega)) rfl ?_
    rintro _ _ _ ⟨a2, c2, M2, rfl, ow, rfl, rfl⟩
    refine At.skim 1 rfl rfl ?_
    refine At.nil ?_
    refine At.inNormal ?_
    refine At.then ?_
    refine At.region ?_
    refine At.quiet (q_add rfl rfl (by omega) (by omega)) rfl ?_
    refine At.skim 1 rfl rfl ?_
    refine At.nil ?_
    refine At.say 3 (.slice a2 (outs t.p (k + 1)).length c2) rfl (by rw [hst, List.length_append]; rfl) ?_
    refine At.then ?_
    exact At.againK (k + 1, a2, c2, M2) ⟨by omega, by rw [hst, List.map_append]; exact ow, by rw [hst, List.length_append]; show _ + x.ps.l.length ≤ _; omega⟩ (by (try dsimp only); omega) (Tells.end 18 ⟨rfl, rfl, trivial⟩ rfl rfl) (fun _ h => h.2) (.cons_cons _ (.refl _))
  · skip
    refine At.freezeOwn 0 hO rfl ?_
    refine At.exit ?_
    refine At.thenExit ?_
    refine At.thenExit ?_
    refine At.inHere rfl ?_
    refine At.then ?_
    refine At.seq ?_
    refine At.region ?_
    refine At.skim 2 rfl rfl ?_
    refine At.nil ?_
    refine At.then ?_
    refine At.ret ?_
    exact At.results (Γr := [prsP ⟨a, c, outs t.p k⟩]) (M := []) rfl (RVals.cons (RVal.tmp rfl) RVals.nil) (.tail _ (.tail _ (.tail _ (.head _)))) (fun _ h => ⟨h.1, trivial⟩) (.refl _) ⟨⟨a, c, outs t.p k⟩, rfl, rfl, rfl, outs_all (by omega)⟩
theorem with35f (l : Sl Pr) (p : Pr) (hl : l.l.length ≤ 1000000) : Con Try.prog 35 [l.val, p.val] [prsP l] [] (PairsEndF (withT l.l p)) := by
  refine Con.body 45 Try.func35 rfl Try.ntmps35 rfl fun X H₀ L₀ => ?_
  refine At.nilSeg ?_
  refine At.seq ?_
  refine At.region ?_
  refine At.loud (l_box rfl) rfl ?_
  rintro _ _ _ ⟨b1, rfl, rfl, rfl⟩
  refine At.freeze 0 (φ := blk b1 _) rfl (fun _ h => blk_def.2 ⟨_, _, h⟩) ?_
  refine At.skim 1 rfl rfl ?_
  refine At.nil ?_
  refine At.then ?_
  refine At.seq ?_
  refine At.region ?_
  refine At.skim 1 rfl rfl ?_
  refine At.nil ?_
  refine At.then ?_
  refine At.seq ?_
  refine At.region ?_
  refine At.skim 1 rfl rfl ?_
  refine At.nil ?_
  refine At.then ?_
  refine At.seq ?_
  refine At.seq ?_
  refine At.region ?_
  refine At.skim 1 rfl rfl ?_
  refine At.quiet (q_len Try.underlying31 rfl) rfl ?_
  refine At.skim 1 rfl rfl ?_
  refine At.nil ?_
  refine At.then ?_
  refine At.block ?_
  refine At.loopK (ι := Nat × Bool × Nat × List Pr × Option Addr × Nat × Seg) [5, 6, 8, 11, 12, 13, 14, 15, 16, 17, 18, 19, 20, 21, 22, 23, 24, 25, 26, 27, 28, 29, 30, 31, 32, 33, 34, 35, 36, 37] (fun ⟨k, d, n0, o, a, c, M⟩ => [(11, .int .i64 (k : Int)), (6, .bool d), (5, .slice a n0 c)]) (fun ⟨k, d, n0, o, a, c, M⟩ => []) (fun ⟨k, d, n0, o, a, c, M⟩ => [M]) _ (fun ⟨k, d, n0, o, a, c, M⟩ => k ≤ l.l.length ∧ withT l.l p = o ++ withGo p (l.l.drop k) d ∧ Own 50 2 (o.map rowP) a c M ∧ n0 = o.length ∧ n0 ≤ 2 * k) (fun ⟨k, d, n0, o, a, c, M⟩ => l.l.length - k) (0, false, 0, [], none, 0, []) ⟨Nat.zero_le _, rfl, Own.nil _ _, rfl, Nat.le_refl _⟩ ⟨rfl, rfl, rfl, trivial⟩ (fun _ _ => trivial) (.cons_cons _ (.refl _)) ?_
  intro i0 hI0
  obtain ⟨k, d, n0, o, a, c, M⟩ := i0
  obtain ⟨hkl, hW, hO, hn0, hnk⟩ := hI0
  refine At.seq ?_
  refine At.region ?_
  refine At.skim 1 rfl rfl ?_
  refine At.nil ?_
  refine At.then ?_
  refine At.seq ?_
  refine At.if rfl (fun hk => ?_) (fun hk => ?_)
  · skip
    obtain ⟨x, hx⟩ := get_of_lt (l := l.l) (i := k) (by omega)
    have hk1 := lt_of_get hx
    refine At.skip ?_
    refine At.then ?_
    refine At.seq ?_
    refine At.block ?_
    refine At.seq ?_
    refine At.region ?_
    refine At.quiet (q_index Try.underlying31 t50 rfl (.tail _ (.tail _ (.head _))) (by simp) rfl rfl (lt_of_get hx)) rfl ?_
    refine At.quiet (q_loadS t50 rfl (RdS.sl0 (.tail _ (.tail _ (.head _))) (map_get hx)) rfl) rfl ?_
    refine At.loud (l_alloc t50) rfl ?_
    rintro _ _ _ ⟨b2, rfl, rfl, rfl⟩
    refine At.loudN (l_store t50 rfl rfl (i := 0) rfl rfl rfl rfl) ?_
    rintro _ _ _ ⟨rfl, rfl⟩
    refine At.nil ?_
    refine At.then ?_
    refine At.seq ?_
    refine At.seq ?_
    refine At.region ?_
    refine At.skim 3 rfl rfl ?_
    refine At.split (d := 17) rfl (fun hd => ?_) (fun hd => ?_)
    · skip
      have hd0 := not_t hd
      refine At.open rfl rfl ?_
      refine At.quiet (q_fieldAddr s50 rfl rfl rfl) rfl ?_
      refine At.open rfl rfl ?_
      refine At.quiet (q_load t3 rfl (Rd.loc (i := 0) rfl rfl)) rfl ?_
      refine At.open rfl rfl ?_
      refine At.quiet (q_fieldAddr s50 rfl rfl rfl) rfl ?_
      refine At.open rfl rfl ?_
      refine At.quiet (q_load t3 rfl (Rd.blk (.head _) rfl)) rfl ?_
      refine At.skim 2 rfl rfl ?_
      refine At.nil ?_
      refine At.then ?_
      refine At.if rfl (fun hc => ?_) (fun hc => ?_)
      · skip
        refine At.seq ?_
        refine At.region ?_
        refine At.skim 1 rfl rfl ?_
        refine At.quiet (q_loadS t50 rfl (RdS.blk (.head _) (m := 2) rfl) rfl) rfl ?_
        refine At.loud (l_buildSlice Try.underlying31 t50 rfl rfl rfl rfl rfl) rfl ?_
        rintro _ _ _ ⟨b3, rfl, rfl, rfl⟩
        refine At.loud (l_append rfl Try.underlying31 t50 rfl rfl hO (by simp; omega) (i := 2) rfl rfl (news := [rowP p]) (by simp [rowP]) (RdS.loc (i := 0) rfl (m := 2) rfl) rfl rfl rfl (by omega) (by unfold maxLen; omega)) rfl ?_
        rintro _ _ _ ⟨a4, c4, M4, rfl, ow4, rfl, rfl⟩
        refine At.skim 1 rfl rfl ?_
        refine At.nil ?_
        refine At.then ?_
        refine At.region ?_
        refine At.skim 1 rfl rfl ?_
        refine At.nil ?_
        refine At.then ?_
        refine At.seq ?_
        refine At.region ?_
        refine At.fld s50 t3 rfl rfl rfl (Rd.loc (i := 1) rfl rfl) rfl rfl ?_
        refine At.fld s50 t3 rfl rfl rfl (Rd.blk (.head _) rfl) rfl rfl ?_
        refine At.skim 1 rfl rfl ?_
        refine At.nil ?_
        refine At.then ?_
        refine At.if rfl (fun hn => ?_) (fun hn => ?_)
        · skip
          refine At.region ?_
          refine At.skim 1 rfl rfl ?_
          refine At.quiet (q_loadS t50 rfl (RdS.loc (i := 1) rfl (m := 2) rfl) rfl) rfl ?_
          refine At.loud (l_buildSlice Try.underlying31 t50 rfl rfl rfl rfl rfl) rfl ?_
          rintro _ _ _ ⟨b4, rfl, rfl, rfl⟩
          refine At.loud (l_append rfl Try.underlying31 t50 rfl rfl ow4 (by simp; omega) (i := 3) rfl rfl (news := [rowP x]) (by simp [rowP]) (RdS.loc (i := 0) rfl (m := 2) rfl) rfl rfl rfl (by omega) (by unfold maxLen; omega)) rfl ?_
          rintro _ _ _ ⟨a5, c5, M5, rfl, ow5, rfl, rfl⟩
          refine At.skim 1 rfl rfl ?_
          refine At.nil ?_
          refine At.inNormal ?_
          refine At.then ?_
          refine At.region ?_
          refine At.quiet (q_add rfl rfl (by omega) (by omega)) rfl ?_
          refine At.skim 1 rfl rfl ?_
          refine At.nil ?_
          refine At.front 3 rfl ?_
          refine At.then ?_
          exact At.againK (k + 1, true, n0 + 1 + 1, o ++ ([p] ++ [x]), a5, c5, M5) ⟨hk1, with_step hx hW (by rw [hd0]; simp [hc]) (by rw [hd0]; simp [hc, hn]), by simpa using ow5, by (try simp); omega, by omega⟩ (by (try dsimp only); omega) (Tells.end 35 ⟨rfl, rfl, rfl, trivial⟩ rfl rfl) (fun _ h => h) (.cons_cons _ (.cons _ (.cons _ (.cons _ (.refl _)))))
        · skip
          refine At.skip ?_
          refine At.inNormal ?_
          refine At.then ?_
          refine At.region ?_
          refine At.quiet (q_add rfl rfl (by omega) (by omega)) rfl ?_
          refine At.skim 1 rfl rfl ?_
          refine At.nil ?_
          refine At.front 2 rfl ?_
          refine At.then ?_
          exact At.againK (k + 1, true, n0 + 1, o ++ ([p] ++ []), a4, c4, M4) ⟨hk1, with_step hx hW (by rw [hd0]; simp [hc]) (by rw [hd0]; simp [hc, show x.k = p.k by omega]), by simpa using ow4, by (try simp); omega, by omega⟩ (by (try dsimp only); omega) (Tells.end 30 ⟨rfl, rfl, rfl, trivial⟩ rfl rfl) (fun _ h => h) (.cons_cons _ (.cons _ (.cons _ (.refl _))))
      · skip
        refine At.skip ?_
        refine At.then ?_
        refine At.seq ?_
        refine At.region ?_
        refine At.fld s50 t3 rfl rfl rfl (Rd.loc (i := 0) rfl rfl) rfl rfl ?_
        refine At.fld s50 t3 rfl rfl rfl (Rd.blk (.head _) rfl) rfl rfl ?_
        refine At.skim 1 rfl rfl ?_
        refine At.nil ?_
        refine At.then ?_
        refine At.if rfl (fun hn => ?_) (fun hn => ?_)
        · skip
          refine At.region ?_
          refine At.skim 1 rfl rfl ?_
          refine At.quiet (q_loadS t50 rfl (RdS.loc (i := 0) rfl (m := 2) rfl) rfl) rfl ?_
          refine At.loud (l_buildSlice Try.underlying31 t50 rfl rfl rfl rfl rfl) rfl ?_
          rintro _ _ _ ⟨b5, rfl, rfl, rfl⟩
          refine At.loud (l_append rfl Try.underlying31 t50 rfl rfl hO (by simp; omega) (i := 2) rfl rfl (news := [rowP x]) (by simp [rowP]) (RdS.loc (i := 0) rfl (m := 2) rfl) rfl rfl rfl (by omega) (by unfold maxLen; omega)) rfl ?_
          rintro _ _ _ ⟨a5, c5, M5, rfl, ow5, rfl, rfl⟩
          refine At.skim 1 rfl rfl ?_
          refine At.nil ?_
          refine At.inNormal ?_
          refine At.then ?_
          refine At.region ?_
          refine At.quiet (q_add rfl rfl (by omega) (by omega)) rfl ?_
          refine At.skim 1 rfl rfl ?_
          refine At.nil ?_
          refine At.front 2 rfl ?_
          refine At.then ?_
          exact At.againK (k + 1, d, n0 + 1, o ++ ([] ++ [x]), a5, c5, M5) ⟨hk1, with_step hx hW (by simp [hc]) (by simp [hc, hn]), by simpa using ow5, by (try simp); omega, by omega⟩ (by (try dsimp only); omega) (Tells.end 29 ⟨rfl, rfl, rfl, trivial⟩ rfl rfl) (fun _ h => h) (.cons_cons _ (.cons _ (.cons _ (.refl _))))
        · skip
          exfalso; omega
    · skip
      have hd0 := not_f hd
      refine At.skim 6 rfl rfl ?_
      refine At.nil ?_
      refine At.then ?_
      refine At.condF rfl ?_
      refine At.skip ?_
      refine At.then ?_
      refine At.seq ?_
      refine At.region ?_
      refine At.fld s50 t3 rfl rfl rfl (Rd.loc (i := 0) rfl rfl) rfl rfl ?_
      refine At.fld s50 t3 rfl rfl rfl (Rd.blk (.head _) rfl) rfl rfl ?_
      refine At.skim 1 rfl rfl ?_
      refine At.nil ?_
      refine At.then ?_
      refine At.if rfl (fun hn => ?_) (fun hn => ?_)
      · skip
        refine At.region ?_
        refine At.skim 1 rfl rfl ?_
        refine At.quiet (q_loadS t50 rfl (RdS.loc (i := 0) rfl (m := 2) rfl) rfl) rfl ?_
        refine At.loud (l_buildSlice Try.underlying31 t50 rfl rfl rfl rfl rfl) rfl ?_
        rintro _ _ _ ⟨b6, rfl, rfl, rfl⟩
        refine At.loud (l_append rfl Try.underlying31 t50 rfl rfl hO (by simp; omega) (i := 2) rfl rfl (news := [rowP x]) (by simp [rowP]) (RdS.loc (i := 0) rfl (m := 2) rfl) rfl rfl rfl (by omega) (by unfold maxLen; omega)) rfl ?_
        rintro _ _ _ ⟨a5, c5, M5, rfl, ow5, rfl, rfl⟩
        refine At.skim 1 rfl rfl ?_
        refine At.nil ?_
        refine At.inNormal ?_
        refine At.then ?_
        refine At.region ?_
        refine At.quiet (q_add rfl rfl (by omega) (by omega)) rfl ?_
        refine At.skim 1 rfl rfl ?_
        refine At.nil ?_
        refine At.front 2 rfl ?_
        refine At.then ?_
        exact At.againK (k + 1, d, n0 + 1, o ++ ([] ++ [x]), a5, c5, M5) ⟨hk1, with_step hx hW (by rw [hd0]; simp) (by rw [hd0]; simp [hn]), by simpa using ow5, by (try simp); omega, by omega⟩ (by (try dsimp only); omega) (Tells.end 29 ⟨rfl, rfl, rfl, trivial⟩ rfl rfl) (fun _ h => h) (.cons_cons _ (.cons _ (.cons _ (.refl _))))
      · skip
        refine At.skip ?_
        refine At.inNormal ?_
        refine At.then ?_
        refine At.region ?_
        refine At.quiet (q_add rfl rfl (by omega) (by omega)) rfl ?_
        refine At.skim 1 rfl rfl ?_
        refine At.nil ?_
        refine At.front 1 rfl ?_
        refine At.then ?_
        exact At.againK (k + 1, d, n0, o ++ ([] ++ []), a, c, M) ⟨hk1, with_step hx hW (by rw [hd0]; simp) (by rw [hd0]; simp [show x.k = p.k by omega]), by simpa using hO, by (try simp); omega, by omega⟩ (by (try dsimp only); omega) (Tells.end 24 ⟨rfl, rfl, rfl, trivial⟩ rfl rfl) (fun _ h => h) (.cons_cons _ (.cons _ (.refl _)))
  · skip
    have hW2 := with_end (by omega) hW
    refine At.exit ?_
    refine At.thenExit ?_
    refine At.thenExit ?_
    refine At.inHere rfl ?_
    refine At.then ?_
    refine At.seq ?_
    refine At.seq ?_
    refine At.region ?_
    refine At.skim 2 rfl rfl ?_
    refine At.nil ?_
    refine At.then ?_
    refine At.cond rfl (fun hd => ?_) (fun hd => ?_)
    · skip
      refine At.region ?_
      refine At.skim 1 rfl rfl ?_
      refine At.quiet (q_loadS t50 rfl (RdS.blk (.head _) (m := 2) rfl) rfl) rfl ?_
      refine At.loud (l_buildSlice Try.underlying31 t50 rfl rfl rfl rfl rfl) rfl ?_
      rintro _ _ _ ⟨b7, rfl, rfl, rfl⟩
      refine At.loud (l_append rfl Try.underlying31 t50 rfl rfl hO (by simp; omega) (i := 1) rfl rfl (news := [rowP p]) (by simp [rowP]) (RdS.loc (i := 0) rfl (m := 2) rfl) rfl rfl rfl (by omega) (by unfold maxLen; omega)) rfl ?_
      rintro _ _ _ ⟨a4, c4, M4, rfl, ow4, rfl, rfl⟩
      refine At.skim 1 rfl rfl ?_
      refine At.nil ?_
      refine At.then ?_
      refine At.seq ?_
      refine At.region ?_
      refine At.freezeOwn 1 (show Own 50 2 ((o ++ [p]).map rowP) a4 c4 M4 by simpa using ow4) rfl ?_
      refine At.skim 2 rfl rfl ?_
      refine At.nil ?_
      refine At.then ?_
      refine At.ret ?_
      exact At.results (Γr := [_]) (M := []) rfl (RVals.cons (RVal.tmp rfl) RVals.nil) (.tail _ (.tail _ (.head _))) (fun _ h => ⟨h.1, trivial⟩) (.cons _ (.refl _)) ⟨⟨a4, c4, o ++ [p]⟩, by simp [Sl.val, resVal, hn0], rfl, rfl, by rw [hW2, not_t hd]; rfl⟩
    · skip
      refine At.skip ?_
      refine At.then ?_
      refine At.seq ?_
      refine At.region ?_
      refine At.freezeOwn 0 hO rfl ?_
      refine At.skim 2 rfl rfl ?_
      refine At.nil ?_
      refine At.then ?_
      refine At.ret ?_
      exact At.results (Γr := [_]) (M := []) rfl (RVals.cons (RVal.tmp rfl) RVals.nil) (.tail _ (.tail _ (.head _))) (fun _ h => ⟨h.1, trivial⟩) (.refl _) ⟨⟨a, c, o⟩, by simp [Sl.val, resVal, hn0], rfl, rfl, by rw [hW2, not_f hd]; simp⟩
end Go.Proofs.Ytmkodknmknfdkaa
set_option linter.unusedVariables false
set_option linter.unusedSimpArgs false
namespace Go.Proofs.Ytmkodknmknfdkaa
namespace E
open Go Go.MapKept
def tupd (a c : Int) : List (Int × Int) → List (Int × Int)
  | [] => [(a, c)]
  | p :: l => if p.1 = a then (a, c) :: l else p :: tupd a c l
def tget (x : Int) : List (Int × Int) → Option Int
  | [] => none
  | p :: l => if p.1 = x then some p.2 else tget x l
theorem tget_upd (a c x : Int) (l : List (Int × Int)) : tget x (tupd a c l) = if x = a then some c else tget x l := by
  induction l with
  | nil =>
    simp only [tupd, tget]
    by_cases h : x = a
    · subst h; simp
    · rw [if_neg (fun e => h e.symm), if_neg h]
  | cons p l ih =>
    simp only [tupd]
    by_cases hp : p.1 = a
    · rw [if_pos hp]
      simp only [tget]
      by_cases h : x = a
      · subst h; simp
      · rw [if_neg (fun e => h e.symm), if_neg h, if_neg (fun e => h (by rw [← hp, e]))]
    · rw [if_neg hp]
      simp only [tget, ih]
      by_cases h : x = a
      · subst h; rw [if_neg hp, if_pos rfl]; simp
      · rw [if_neg h]; simp [h]
def entOf (e : MapEntry) : Value × Value := (e.key, e.val)
def tabV (p : Int × Int) : Value × Value := (.int .i64 p.1, .int .i64 p.2)
theorem findNow_tab (a c : Int) : ∀ (es : List MapEntry) (tab : List (Int × Int)) (i : Nat), es.map entOf = tab.map tabV →
    (Instr.findNow (.int .i64) (.int .i64 a) es i = some none ∧ tupd a c tab = tab ++ [(a, c)] ∧ tget a tab = none) ∨
    ∃ j v, Instr.findNow (.int .i64) (.int .i64 a) es i = some (some (i + j, .int .i64 v)) ∧ tupd a c tab = tab.set j (a, c) ∧ tget a tab = some v ∧ j < tab.length ∧ (es[j]?).map (·.key) = some (.int .i64 a)
  | [], [], i, _ => .inl ⟨rfl, rfl, rfl⟩
  | [], _ :: _, _, h => by simp at h
  | _ :: _, [], _, h => by simp at h
  | e :: es, p :: tab, i, h => by
    simp only [List.map_cons, List.cons.injEq, entOf, tabV, Prod.mk.injEq] at h
    obtain ⟨⟨hk, hv⟩, ht⟩ := h
    by_cases hp : p.1 = a
    · refine .inr ⟨0, p.2, ?_, by simp [tupd, hp], by simp [tget, hp], by simp, by simp [hk, hp]⟩
      simp only [Instr.findNow, hk, Instr.sameNow, hp, beq_self_eq_true, if_true, hv, Nat.add_zero]
    · have hs : Instr.sameNow (.int .i64) (.int .i64 a) e.key = some false := by
        rw [hk]
        simp only [Instr.sameNow, if_true]
        congr 1
        simpa using fun e => hp e.symm
      rcases findNow_tab a c es tab (i + 1) ht with ⟨h1, h2, h3⟩ | ⟨j, v, h1, h2, h3, h4, h5⟩
      · exact .inl ⟨by simp only [Instr.findNow, hs, h1], by simp [tupd, hp, h2], by simp [tget, hp, h3]⟩
      · refine .inr ⟨j + 1, v, by simp only [Instr.findNow, hs, h1]; rw [show i + 1 + j = i + (j + 1) by omega], by simp [tupd, hp, h2], by simp [tget, hp, h3], by simpa using h4, by simpa using h5⟩
/-- A map of the call's own, by what it answers. -/
def OwnMap (f : Int → Option Int) (b : Nat) (M : Seg) : Prop := ∃ es clock tab, M = [(b, .map es clock)] ∧ es.toList.map entOf = tab.map tabV ∧ ∀ x, tget x tab = f x
def mupd (f : Int → Option Int) (a c : Int) : Int → Option Int := fun x => if x = a then some c else f x
section
variable {P : Program} {n : Nat} {env : Env} {Γ : List SProp} {L : Loc} {ty t k e : TypeId} {m x y : Operand} {f : Int → Option Int} {b i : Nat} {M : Seg} {a c : Int}
theorem l_makeMap : Loud P (.makeMap t none) ty n env Γ L (fun v Γ' L' => ∃ b M, v = .map (some b) ∧ OwnMap (fun _ => none) b M ∧ Γ' = Γ ∧ L' = M :: L) :=
  Loud.ofRun fun X d pos aft g ac w H h1 h2 h3 => by
    refine ⟨_, _, H, Γ, _, ?_, ⟨w.heap.size, _, rfl, ⟨#[], 0, [], rfl, rfl, fun _ => rfl⟩, rfl, rfl⟩, Hp.le_refl H, h2, h3.push (.map #[] 0)⟩
    simp [execOp, Instr.makeMap, newObj, Sem.run]
theorem q_lookup (ht : P.underlying t = some (.map k e)) (hk : P.underlying k = some (.int .i64)) {sc : Bool} {size bytes : Nat} (he : tRow P e = some (sc, size, bytes, .int .i64 0)) (hm : ev env m = some (.map (some b))) (hx : ev env x = some (.int .i64 a))
    (ho : OwnMap f b M) (hL : L[i]? = some M) : Quiet P (.lookup t m x false) ty n env Γ L (.int .i64 ((f a).getD 0)) :=
  fun X _ _ _ _ ac w H h1 h2 h3 => by
    obtain ⟨es, clock, tab, rfl, htab, hf⟩ := ho
    have hb : w.heap[b]? = some (.map es clock) := h3.mem (List.mem_of_getElem? hL) (List.mem_singleton.2 rfl)
    have hc := run_checkKey (P := P) (w := w) (k := .int .i64 a) hk (show IsKey (.int .i64) (.int .i64 a) from rfl) es.isEmpty 9999
    rcases findNow_tab a 0 es.toList tab 0 htab with ⟨h4, _, h5⟩ | ⟨j, v, h4, _, h5, _, _⟩
    · have hfk := run_findKey (P := P) (w := w) hk h4
      rw [hf] at h5
      simp [execOp, h1.ev hm, h1.ev hx, Instr.lookup, underlying, ht, Go.MapKept.run_getObj_map hb, hc, hfk, tRow_zero he, h5]
    · have hfk := run_findKey (P := P) (w := w) hk h4
      rw [hf] at h5
      simp [execOp, h1.ev hm, h1.ev hx, Instr.lookup, underlying, ht, Go.MapKept.run_getObj_map hb, hc, hfk, h5]
theorem l_mapUpdate (ht : P.underlying t = some (.map k e)) (hk : P.underlying k = some (.int .i64)) (hm : ev env m = some (.map (some b))) (hx : ev env x = some (.int .i64 a)) (hy : ev env y = some (.int .i64 c))
    (ho : OwnMap f b M) (hL : L[i]? = some M) : Loud P (.mapUpdate t m x y) ty n env Γ L (fun _ Γ' L' => ∃ M', OwnMap (mupd f a c) b M' ∧ Γ' = Γ ∧ L' = L.set i M') :=
  Loud.ofSkip fun X d pos aft g ac w H h1 h2 h3 => by
    obtain ⟨es, clock, tab, rfl, htab, hf⟩ := ho
    have hfr := h3.front hL
    have hb : w.heap[b]? = some (.map es clock) := hfr.loc (b, _) (List.mem_cons_self ..)
    have hc := run_checkKey (P := P) (w := w) (k := .int .i64 a) hk (show IsKey (.int .i64) (.int .i64 a) from rfl) false 9999
    have hgets : ∀ x, tget x (tupd a c tab) = mupd f a c x := fun x => by rw [tget_upd, hf]; rfl
    have hset : ∀ o' : Obj, ({ w with heap := w.heap.setIfInBounds b o' } : World).heap[b]? = some o' ∧ ∀ r, r ≠ b → ({ w with heap := w.heap.setIfInBounds b o' } : World).heap[r]? = w.heap[r]? := fun o' => heap_set hb
    rcases findNow_tab a c es.toList tab 0 htab with ⟨h4, h5, _⟩ | ⟨j, v, h4, h5, _, h6, h7⟩
    · have hfk := run_findKey (P := P) (w := w) hk h4
      refine ⟨_, H, Γ, _, ?_, ⟨[(b, .map (es.push { key := .int .i64 a, val := .int .i64 c, born := clock }) (clock + 1))], ⟨_, _, tupd a c tab, rfl, by rw [h5]; simp [htab, entOf, tabV], hgets⟩, rfl, rfl⟩, Hp.le_refl H, h2,
        St.back _ hL (hfr.set (w' := { w with heap := w.heap.setIfInBounds b (.map (es.push { key := .int .i64 a, val := .int .i64 c, born := clock }) (clock + 1)) }) rfl rfl rfl (hset _).1 (hset _).2)⟩
      simp [execOp, h1.ev hm, h1.ev hx, h1.ev hy, Instr.mapUpdate, underlying, ht, Go.MapKept.run_getObj_map hb, hc, hfk, Go.MapKept.run_setObj_map _ hb]
    · have hfk := run_findKey (P := P) (w := w) hk h4
      rw [Nat.zero_add] at hfk
      obtain ⟨e0, he0, hkey⟩ : ∃ e0, es.toList[j]? = some e0 ∧ e0.key = .int .i64 a := by
        cases hj : es.toList[j]? with
        | none => rw [hj] at h7; cases h7
        | some e0 => rw [hj] at h7; exact ⟨e0, rfl, Option.some.inj h7⟩
      have hj2 : es[j]? = some e0 := by simpa using he0
      have hkt := run_keyThatStays (P := P) (w := w) (k := .int .i64 a) (show IsKey (.int .i64) (.int .i64 a) from rfl)
      refine ⟨_, H, Γ, _, ?_, ⟨[(b, .map (es.modify j fun e => { e with key := .int .i64 a, val := .int .i64 c }) clock)], ⟨_, _, tupd a c tab, rfl, ?_, hgets⟩, rfl, rfl⟩, Hp.le_refl H, h2,
        St.back _ hL (hfr.set (w' := { w with heap := w.heap.setIfInBounds b (.map (es.modify j fun e => { e with key := .int .i64 a, val := .int .i64 c }) clock) }) rfl rfl rfl (hset _).1 (hset _).2)⟩
      · simp [execOp, h1.ev hm, h1.ev hx, h1.ev hy, Instr.mapUpdate, underlying, ht, Go.MapKept.run_getObj_map hb, hc, hfk, hj2, hkey, hkt, Go.MapKept.run_setObj_map _ hb]
      · rw [h5, List.map_set, ← htab]
        apply List.ext_getElem?
        intro q
        rw [List.getElem?_set, List.getElem?_map, List.getElem?_map, Array.toList_modify, List.getElem?_modify]
        by_cases hq : j = q
        · subst hq
          rw [he0]
          have hjs : j < es.size := (Array.getElem?_eq_some_iff.1 hj2).1
          simp [entOf, tabV, hjs]
        · simp [hq]
theorem q_cap {a : Option Addr} {len cap : Nat} (ht : P.underlying t = some (.slice e)) (hx : ev env x = some (.slice a len cap)) : Quiet P (.call ⟨.builtin .cap, #[x], #[t]⟩) ty n env Γ L (.int .i64 cap) :=
  fun _ _ _ _ _ ac w _ h1 _ _ => by simp [execOp, resolve, invoke, builtin, Builtin.cap_, h1.ev hx, underlying, ht, goInt]
theorem sub0 {b c k : Nat} : subA (some ⟨b, 0, none⟩) c k 0 = some ⟨b, 0, none⟩ := by
  unfold subA
  split
  · rfl
  · simp [Addr.add]
/-- Zeros laid behind nothing. -/
theorem l_appendZeros {tn : TypeId} {sc : Bool} {size bytes m : Nat} {zero : Value} {z : Int} {ats : Array TypeId} (hats : ats = #[t, tn]) (ht : P.underlying t = some (.slice e)) (htn : P.underlying tn = some (.int .i64)) (he : tRow P e = some (sc, size, bytes, zero))
    (hx : ev env x = some (.slice none 0 0)) (hy : ev env y = some (.int .i64 z)) (hz : z = (m : Int)) (h0 : 0 < m) (hzs : Nat.beq zero.cells.size size = true) (hpos : Nat.blt 0 size = true) (hb : m * bytes ≤ 140737488355328) (hm : m ≤ maxLen) :
    Loud P (.call ⟨.builtin .append, #[x, y], ats⟩) ty n env Γ L (fun v Γ' L' => ∃ b c M, v = .slice (some ⟨b, 0, none⟩) m c ∧ Own e size [] (some ⟨b, 0, none⟩) c M ∧ m ≤ c ∧ Γ' = Γ ∧ L' = M :: L) :=
  Loud.ofRun fun X d pos aft g ac w H k1 k2 k3 => by
    subst hats
    subst hz
    obtain ⟨td, inf, e1, e2, _, e3, e4, e5⟩ := tRow_parts he
    have hz' := Nat.eq_of_beq_eq_true hzs
    have hpos' : 0 < size := by simpa [Nat.blt_eq] using hpos
    subst e3
    subst e4
    have hr := Lib.run_append_nil_zeros (P := P) w t tn ty e inf zero .i64 .i64 ht htn e2 e5 m h0 hpos' (by simp only [maxLen] at hm; omega) (by omega)
    refine ⟨_, _, H, Γ, _, ?_, ⟨w.heap.size, grownCap w m 0 e, [(w.heap.size, .cells (Builtin.zeroCells zero.cells m ++ Builtin.zeroCells zero.cells (grownCap w m 0 e - m)) e (0, 0))], rfl,
      ⟨by simp, .inr ⟨_, _, rfl, rfl, by simp, grownCap_le_maxLen w m 0 e hm, ?_, by simp⟩⟩, grownCap_ge w m 0 e, rfl, rfl⟩, Hp.le_refl H, k2, (k3.drawn (w.drawn + 1)).push _⟩
    · simp [execOp, resolve, invoke, builtin, k1.ev hx, k1.ev hy, hr]
      rfl
    · have hge := grownCap_ge w m 0 e
      simp only [Array.size_append, size_zeroCells, hz', ← Nat.add_mul]
      congr 1
      omega
end
end E
end Go.Proofs.Ytmkodknmknfdkaa
set_option linter.unusedVariables false
set_option linter.unusedSimpArgs false
namespace Go.Proofs.Ytmkodknmknfdkaa
open E
def kidN (n : Nod) (side : Bool) : Int := if side then n.right else n.left
/-- Ways from the root. -/
inductive WayTo (ns : List Nod) (root : Int) : List Nat → List Bool → Int → Prop
  | nil : WayTo ns root [] [] root
  | step {u : List Nat} {b : List Bool} {q : Nat} {n : Nod} {side : Bool} : WayTo ns root u b (q : Int) → ns[q]? = some n → n.route = true → WayTo ns root (u ++ [q]) (b ++ [side]) (kidN n side)
theorem at_mem (s : Sh) : s.at_ ∈ s.places := by cases s <;> simp [Sh.at_, Sh.places]
theorem Hangs.at0 {ns : List Nod} {s : Sh} {a : Int} (h : Hangs ns s a) : a = (s.at_ : Int) := by
  cases s with
  | leaf i => exact h.1
  | node i l r => exact h.1
theorem Hangs.get {ns : List Nod} {s : Sh} {a : Int} (h : Hangs ns s a) : ∀ i ∈ s.places, ∃ n, ns[i]? = some n := by
  induction s generalizing a with
  | leaf j =>
    obtain ⟨_, n, hn, _⟩ := h
    intro i hi
    simp [Sh.places] at hi
    subst hi
    exact ⟨n, hn⟩
  | node j l r h1 h2 =>
    obtain ⟨_, n, hn, _, hl, hr⟩ := h
    intro i hi
    simp only [Sh.places, List.mem_cons, List.mem_append] at hi
    rcases hi with rfl | hi | hi
    · exact ⟨n, hn⟩
    · exact h1 hl i hi
    · exact h2 hr i hi
theorem ways {ns : List Nod} {root : Int} {s : Sh} {a : Int} {u : List Nat} {b : List Bool} (h : Hangs ns s a) (hw : WayTo ns root u b a) : ∀ p ∈ s.places, ∃ u' b', WayTo ns root u' b' (p : Int) := by
  induction s generalizing a u b with
  | leaf i =>
    obtain ⟨rfl, _⟩ := h
    intro p hp
    simp [Sh.places] at hp
    subst hp
    exact ⟨u, b, hw⟩
  | node i l r h1 h2 =>
    obtain ⟨rfl, n, hn, hr, hl, hr'⟩ := h
    intro p hp
    simp only [Sh.places, List.mem_cons, List.mem_append] at hp
    rcases hp with rfl | hp | hp
    · exact ⟨u, b, hw⟩
    · exact h1 hl (WayTo.step (side := false) hw hn hr) p hp
    · exact h2 hr' (WayTo.step (side := true) hw hn hr) p hp
/-- A node's children hang below it. -/
theorem kid_in {ns : List Nod} {s : Sh} {a : Int} (h : Hangs ns s a) (hn : s.places.Nodup) {q : Nat} {n : Nod} (hq : q ∈ s.places) (hns : ns[q]? = some n) (hr : n.route = true) (side : Bool) :
    ∃ p ∈ s.places, kidN n side = (p : Int) ∧ p ≠ s.at_ := by
  induction s generalizing a with
  | leaf i =>
    obtain ⟨rfl, m, hm, hmr⟩ := h
    simp [Sh.places] at hq
    subst hq
    rw [hns] at hm
    cases hm
    rw [hr] at hmr
    cases hmr
  | node i l r h1 h2 =>
    obtain ⟨rfl, m, hm, hmr, hl, hrr⟩ := h
    obtain ⟨c1, c2, d1, d2, d3⟩ := nodup_node hn
    simp only [Sh.places, List.mem_cons, List.mem_append] at hq
    rcases hq with rfl | hq | hq
    · rw [hns] at hm
      cases hm
      cases side
      · exact ⟨l.at_, by simp [Sh.places, at_mem], hl.at0, fun e => c1 (by show Sh.at_ (.node q l r) ∈ _; rw [← e]; exact at_mem l)⟩
      · exact ⟨r.at_, by simp [Sh.places, at_mem], hrr.at0, fun e => c2 (by show Sh.at_ (.node q l r) ∈ _; rw [← e]; exact at_mem r)⟩
    · obtain ⟨p, hp, e, _⟩ := h1 hl d1 hq
      exact ⟨p, by simp [Sh.places, hp], e, fun e' => c1 (by show Sh.at_ (.node i l r) ∈ _; rw [← e']; exact hp)⟩
    · obtain ⟨p, hp, e, _⟩ := h2 hrr d2 hq
      exact ⟨p, by simp [Sh.places, hp], e, fun e' => c2 (by show Sh.at_ (.node i l r) ∈ _; rw [← e']; exact hp)⟩
/-- Each place has one parent. -/
theorem one_parent {ns : List Nod} {s : Sh} {a : Int} (h : Hangs ns s a) (hn : s.places.Nodup) {q q' : Nat} {n n' : Nod} {side side' : Bool} (hq : q ∈ s.places) (hns : ns[q]? = some n) (hr : n.route = true) (hq' : q' ∈ s.places) (hns' : ns[q']? = some n') (hr' : n'.route = true)
    (he : kidN n side = kidN n' side') : q = q' ∧ side = side' := by
  induction s generalizing a with
  | leaf i =>
    obtain ⟨rfl, m, hm, hmr⟩ := h
    simp [Sh.places] at hq
    subst hq
    rw [hns] at hm
    cases hm
    rw [hr] at hmr
    cases hmr
  | node i l r h1 h2 =>
    obtain ⟨rfl, m, hm, hmr, hl, hrr⟩ := h
    obtain ⟨c1, c2, d1, d2, d3⟩ := nodup_node hn
    -- a child of the route itself is no child of what hangs below
    have top : ∀ {sd sd' : Bool} {x : Nat} {k : Nod}, x ∈ l.places ∨ x ∈ r.places → ns[x]? = some k → k.route = true → kidN m sd = kidN k sd' → False := by
      intro sd sd' x k hx hk hkr e
      rcases hx with hx | hx
      · obtain ⟨p, hp, e1, e2⟩ := kid_in hl d1 hx hk hkr sd'
        cases sd
        · have e3 : m.left = (l.at_ : Int) := hl.at0
          have e4 : kidN m false = m.left := rfl
          rw [e4, e3, e1] at e
          exact e2 (by omega)
        · have e3 : m.right = (r.at_ : Int) := hrr.at0
          have e4 : kidN m true = m.right := rfl
          rw [e4, e3, e1] at e
          exact d3 p hp (by have : p = r.at_ := by omega
                            rw [this]; exact at_mem r)
      · obtain ⟨p, hp, e1, e2⟩ := kid_in hrr d2 hx hk hkr sd'
        cases sd
        · have e3 : m.left = (l.at_ : Int) := hl.at0
          have e4 : kidN m false = m.left := rfl
          rw [e4, e3, e1] at e
          exact d3 l.at_ (at_mem l) (by have : l.at_ = p := by omega
                                        rw [this]; exact hp)
        · have e3 : m.right = (r.at_ : Int) := hrr.at0
          have e4 : kidN m true = m.right := rfl
          rw [e4, e3, e1] at e
          exact e2 (by omega)
    have hdis : ∀ {sd sd' : Bool} {x y : Nat} {k k' : Nod}, x ∈ l.places → y ∈ r.places → ns[x]? = some k → k.route = true → ns[y]? = some k' → k'.route = true → kidN k sd = kidN k' sd' → False := by
      intro sd sd' x y k k' hx hy hk hkr hk' hkr' e
      obtain ⟨p, hp, e1, _⟩ := kid_in hl d1 hx hk hkr sd
      obtain ⟨p', hp', e1', _⟩ := kid_in hrr d2 hy hk' hkr' sd'
      rw [e1, e1'] at e
      exact d3 p hp (by have : p = p' := by omega
                        rw [this]; exact hp')
    simp only [Sh.places, List.mem_cons, List.mem_append] at hq hq'
    rcases hq with rfl | hq
    · rcases hq' with rfl | hq'
      · rw [hns] at hns'
        cases hns'
        rw [hns] at hm
        cases hm
        refine ⟨rfl, ?_⟩
        have e3 : n.left = (l.at_ : Int) := hl.at0
        have e4 : n.right = (r.at_ : Int) := hrr.at0
        have e5 : l.at_ ≠ r.at_ := fun e => d3 l.at_ (at_mem l) (by rw [e]; exact at_mem r)
        cases side <;> cases side'
        · rfl
        · exact absurd (show n.left = n.right from he) (by omega)
        · exact absurd (show n.right = n.left from he) (by omega)
        · rfl
      · rw [hns] at hm
        cases hm
        exact (top hq' hns' hr' he).elim
    · rcases hq' with rfl | hq'
      · rw [hns'] at hm
        cases hm
        exact (top hq hns hr he.symm).elim
      · rcases hq with hq | hq <;> rcases hq' with hq' | hq'
        · exact h1 hl d1 hq hq'
        · exact (hdis hq hq' hns hr hns' hr' he).elim
        · exact (hdis hq' hq hns' hr' hns hr he.symm).elim
        · exact h2 hrr d2 hq hq'
/-- Who is above: as far as one has looked. -/
def parUpto (ns : List Nod) (k : Nat) : Int → Option Int := fun x =>
  match k with
  | 0 => none
  | k + 1 => match ns[k]? with
    | none => parUpto ns k x
    | some n => if n.route then (if x = n.right then some (k : Int) else if x = n.left then some (k : Int) else parUpto ns k x) else parUpto ns k x
theorem par_route {ns : List Nod} {k : Nat} {n : Nod} (hn : ns[k]? = some n) (hr : n.route = true) : mupd (mupd (parUpto ns k) n.left k) n.right k = parUpto ns (k + 1) := by
  funext x
  simp only [mupd, parUpto, hn, hr, if_true]
theorem par_leaf {ns : List Nod} {k : Nat} {n : Nod} (hn : ns[k]? = some n) (hr : n.route = false) : parUpto ns k = parUpto ns (k + 1) := by
  funext x
  simp [parUpto, hn, hr]
theorem par_some {ns : List Nod} {x : Int} : ∀ {k : Nat} {q : Int}, parUpto ns k x = some q → ∃ (i : Nat) (n : Nod) (side : Bool), q = (i : Int) ∧ i < k ∧ ns[i]? = some n ∧ n.route = true ∧ kidN n side = x
  | 0, q, h => by simp [parUpto] at h
  | k + 1, q, h => by
    have more : parUpto ns k x = some q → ∃ (i : Nat) (n : Nod) (side : Bool), q = (i : Int) ∧ i < k + 1 ∧ ns[i]? = some n ∧ n.route = true ∧ kidN n side = x := fun h' => by
      obtain ⟨i, n, side, h1, h2, h3⟩ := par_some h'
      exact ⟨i, n, side, h1, by omega, h3⟩
    simp only [parUpto] at h
    split at h
    · exact more h
    · rename_i n hn
      split at h
      · rename_i hr
        split at h
        · rename_i e; cases h; exact ⟨k, n, true, rfl, by omega, hn, hr, e.symm⟩
        · split at h
          · rename_i e; cases h; exact ⟨k, n, false, rfl, by omega, hn, hr, e.symm⟩
          · exact more h
      · exact more h
theorem par_found {ns : List Nod} {x : Int} {i : Nat} {n : Nod} {side : Bool} (hn : ns[i]? = some n) (hr : n.route = true) (he : kidN n side = x) : ∀ {k : Nat}, i < k → ∃ q, parUpto ns k x = some q
  | 0, h => by omega
  | k + 1, h => by
    simp only [parUpto]
    by_cases hik : i = k
    · subst hik
      rw [hn]
      simp only [hr, if_true]
      cases side
      · by_cases e : x = n.right
        · exact ⟨_, by rw [if_pos e]⟩
        · exact ⟨_, by rw [if_neg e, if_pos (show x = n.left from he.symm)]⟩
      · exact ⟨_, by rw [if_pos (show x = n.right from he.symm)]⟩
    · obtain ⟨q, hq⟩ := par_found hn hr he (k := k) (by omega)
      split
      · exact ⟨q, hq⟩
      · split
        · split
          · exact ⟨_, rfl⟩
          · split
            · exact ⟨_, rfl⟩
            · exact ⟨q, hq⟩
        · exact ⟨q, hq⟩
/-- One step up a way. -/
theorem way_up {t : PT} {s : Sh} {p : Nat} {u : List Nat} {b : List Bool} (h : Good t s) (hw : WayTo t.ns t.root u b (p : Int)) (hne : (p : Int) ≠ t.root) :
    ∃ (u' : List Nat) (b' : List Bool) (q : Nat) (n : Nod), u = u' ++ [q] ∧ WayTo t.ns t.root u' b' (q : Int) ∧ t.ns[q]? = some n ∧ n.route = true ∧ b = b' ++ [decide (n.right = (p : Int))] ∧ parUpto t.ns t.ns.length p = some (q : Int) := by
  generalize hp : (p : Int) = x at hw
  cases hw with
  | nil => exact absurd hp hne
  | @step u' b' q n side hw' hn hr =>
    have hq : q ∈ s.places := h.all q (lt_of_get hn)
    obtain ⟨q2, hq2⟩ := par_found (x := (p : Int)) hn hr hp.symm (k := t.ns.length) (lt_of_get hn)
    obtain ⟨i, m, sd, rfl, hi, hm, hmr, he⟩ := par_some hq2
    have e1 := one_parent h.hangs h.nodup hq hn hr (h.all i hi) hm hmr (side := side) (side' := sd) (by rw [he, hp])
    obtain ⟨rfl, rfl⟩ := e1
    rw [← hp]
    refine ⟨u', b', q, n, rfl, hw', hn, hr, ?_, hq2⟩
    congr 1
    congr 1
    -- on which side
    obtain ⟨pl, _, e2, _⟩ := kid_in h.hangs h.nodup hq hn hr false
    obtain ⟨pr, _, e3, _⟩ := kid_in h.hangs h.nodup hq hn hr true
    have hne' : kidN n false ≠ kidN n true := fun e => by
      have := (one_parent h.hangs h.nodup hq hn hr hq hn hr e).2
      cases this
    cases side
    · have : ¬ (n.right = (p : Int)) := fun e => hne' (by rw [← hp]; exact e.symm)
      rw [decide_eq_false this]
    · rw [decide_eq_true (show n.right = (p : Int) from hp.symm)]
theorem way_root {t : PT} {s : Sh} {u : List Nat} {b : List Bool} (h : Good t s) (hw : WayTo t.ns t.root u b t.root) : u = [] ∧ b = [] := by
  generalize hx : t.root = x at hw
  have hx' : x = t.root := hx.symm
  cases hw with
  | nil => exact ⟨rfl, rfl⟩
  | @step u' b' q n side hw' hn hr =>
    obtain ⟨p, _, e, e2⟩ := kid_in h.hangs h.nodup (h.all q (lt_of_get hn)) hn hr side
    have := h.hangs.at0
    exact absurd (show p = s.at_ by omega) e2
def Sh.first : Sh → Nat
  | .leaf i => i
  | .node _ l _ => l.first
def Sh.last : Sh → Nat
  | .leaf i => i
  | .node _ _ r => r.last
/-- Of a leaf: its route, on which side of it it hangs, its neighbour. -/
def Sh.nb (i : Nat) : Sh → Option (Nat × Bool × Nat)
  | .leaf _ => none
  | .node j l r => if l = .leaf i then some (j, false, r.first) else if r = .leaf i then some (j, true, l.last) else match l.nb i with
    | some x => some x
    | none => r.nb i
theorem nb_mem {s : Sh} {i j : Nat} {sd : Bool} {n : Nat} (h : s.nb i = some (j, sd, n)) : i ∈ s.leaves := by
  induction s with
  | leaf k => cases h
  | node k l r h1 h2 =>
    simp only [Sh.nb] at h
    simp only [Sh.leaves, List.mem_append]
    split at h
    · rename_i e; subst e; exact .inl (by simp [Sh.leaves])
    · split at h
      · rename_i e; subst e; exact .inr (by simp [Sh.leaves])
      · split at h
        · rename_i x hx; cases h; exact .inl (h1 hx)
        · exact .inr (h2 h)
/-- What hangs at a leaf's place is the leaf. -/
theorem hangs_leaf {ns : List Nod} {s : Sh} {i : Nat} {n : Nod} (h : Hangs ns s (i : Int)) (hn : ns[i]? = some n) (hr : n.route = false) : s = .leaf i := by
  cases s with
  | leaf j => obtain ⟨e, _⟩ := h; congr 1; omega
  | node j l r =>
    obtain ⟨e, m, hm, hmr, _⟩ := h
    obtain rfl : i = j := by omega
    rw [hn] at hm
    cases hm
    rw [hr] at hmr
    cases hmr
theorem nb_spec {ns : List Nod} {s : Sh} {a : Int} (h : Hangs ns s a) (hn : s.places.Nodup) {q i : Nat} {n x : Nod} {side : Bool} (hq : q ∈ s.places) (hns : ns[q]? = some n) (hr : n.route = true) (he : kidN n side = (i : Int)) (hx : ns[i]? = some x) (hxr : x.route = false) :
    ∃ l r, Hangs ns l n.left ∧ Hangs ns r n.right ∧ s.nb i = some (q, side, if side then l.last else r.first) := by
  induction s generalizing a with
  | leaf j =>
    obtain ⟨rfl, m, hm, hmr⟩ := h
    simp [Sh.places] at hq
    subst hq
    rw [hns] at hm
    cases hm
    rw [hr] at hmr
    cases hmr
  | node j l r h1 h2 =>
    have hall : Hangs ns (.node j l r) a := h
    obtain ⟨rfl, m, hm, hmr, hl, hrr⟩ := h
    obtain ⟨c1, c2, d1, d2, d3⟩ := nodup_node hn
    have hj : j ∈ (Sh.node j l r).places := by simp [Sh.places]
    have noL : q ≠ j → l ≠ .leaf i := fun hne e => by
      subst e
      have e1 : kidN m false = (i : Int) := hl.1
      exact hne (one_parent hall hn hq hns hr hj hm hmr (he.trans e1.symm)).1
    have noR : q ≠ j → r ≠ .leaf i := fun hne e => by
      subst e
      have e1 : kidN m true = (i : Int) := hrr.1
      exact hne (one_parent hall hn hq hns hr hj hm hmr (he.trans e1.symm)).1
    have hq0 := hq
    simp only [Sh.places, List.mem_cons, List.mem_append] at hq
    rcases hq with rfl | hq | hq
    · rw [hns] at hm
      cases hm
      refine ⟨l, r, hl, hrr, ?_⟩
      cases side
      · have e : l = .leaf i := hangs_leaf (by have : n.left = (i : Int) := he; rw [← this]; exact hl) hx hxr
        simp [Sh.nb, e]
      · have e : r = .leaf i := hangs_leaf (by have : n.right = (i : Int) := he; rw [← this]; exact hrr) hx hxr
        have e' : l ≠ .leaf i := fun e2 => d3 i (by rw [e2]; simp [Sh.places]) (by rw [e]; simp [Sh.places])
        simp only [Sh.nb, if_neg e', if_pos e, if_true]
    · have hne : q ≠ j := fun e => c1 (e ▸ hq)
      obtain ⟨l', r', g1, g2, g3⟩ := h1 hl d1 hq
      refine ⟨l', r', g1, g2, ?_⟩
      simp only [Sh.nb, if_neg (noL hne), if_neg (noR hne), g3]
    · have hne : q ≠ j := fun e => c2 (e ▸ hq)
      obtain ⟨l', r', g1, g2, g3⟩ := h2 hrr d2 hq
      refine ⟨l', r', g1, g2, ?_⟩
      have hno : l.nb i = none := by
        cases hl' : l.nb i with
        | none => rfl
        | some y =>
          obtain ⟨y1, y2, y3⟩ := y
          have m1 := leaves_places i (nb_mem hl')
          have m2 := leaves_places i (nb_mem g3)
          exact absurd m2 (d3 i m1)
      simp only [Sh.nb, if_neg (noL hne), if_neg (noR hne), hno, g3]
def nextT (t : PT) (a : Int) : Option Nat := if leafT t a then (match mayT t with
  | none => none
  | some s => (s.nb a.toNat).map (·.2.2)) else none
theorem next_no {t : PT} {a : Int} (h : leafT t a = false) : nextT t a = none := by simp [nextT, h]
theorem next_eq {t : PT} {s : Sh} {i : Nat} (hs : mayT t = some s) (h : leafT t (i : Int) = true) : nextT t (i : Int) = (s.nb i).map (·.2.2) := by simp [nextT, h, hs]
/-- A leaf's neighbour stands beside it. -/
theorem first_leaves (s : Sh) : ∃ l, s.leaves = s.first :: l := by
  induction s with
  | leaf i => exact ⟨[], rfl⟩
  | node i l r h1 h2 =>
    obtain ⟨x, hx⟩ := h1
    exact ⟨x ++ r.leaves, by simp [Sh.leaves, Sh.first, hx]⟩
theorem last_leaves (s : Sh) : ∃ l, s.leaves = l ++ [s.last] := by
  induction s with
  | leaf i => exact ⟨[], rfl⟩
  | node i l r h1 h2 =>
    obtain ⟨x, hx⟩ := h2
    exact ⟨l.leaves ++ x, by simp [Sh.leaves, Sh.last, hx]⟩
theorem nb_beside {s : Sh} {i j n : Nat} {sd : Bool} (h : s.nb i = some (j, sd, n)) : ∃ A B, s.leaves = A ++ (if sd then [n, i] else [i, n]) ++ B := by
  induction s with
  | leaf k => cases h
  | node k l r h1 h2 =>
    simp only [Sh.nb] at h
    simp only [Sh.leaves]
    split at h
    · rename_i e
      cases h
      subst e
      obtain ⟨x, hx⟩ := first_leaves r
      exact ⟨[], x, by rw [hx]; simp [Sh.leaves]⟩
    · split at h
      · rename_i e
        cases h
        subst e
        obtain ⟨x, hx⟩ := last_leaves l
        exact ⟨x, [], by rw [hx]; simp [Sh.leaves]⟩
      · split at h
        · rename_i y hy
          cases h
          obtain ⟨A, B, e⟩ := h1 hy
          exact ⟨A, B ++ r.leaves, by rw [e]; simp⟩
        · obtain ⟨A, B, e⟩ := h2 h
          exact ⟨l.leaves ++ A, B, by rw [e]; simp⟩
end Go.Proofs.Ytmkodknmknfdkaa
set_option linter.unusedVariables false
set_option linter.unusedSimpArgs false
namespace Go.Proofs.Ytmkodknmknfdkaa
open E
/-- Turned round from both ends, so far. -/
def RevAt {α : Type} (l l' : List α) (i : Nat) : Prop := l'.length = l.length ∧ ∀ j, j < l.length → l'[j]? = if j < i ∨ l.length ≤ j + i then l[l.length - 1 - j]? else l[j]?
theorem RevAt.start {α : Type} (l : List α) : RevAt l l 0 := ⟨rfl, fun j hj => by rw [if_neg (by omega)]⟩
theorem RevAt.mid {α : Type} {l l' : List α} {i j : Nat} (h : RevAt l l' i) (h1 : i ≤ j) (h2 : j + i < l.length) : l'[j]? = l[j]? := by
  rw [h.2 j (by omega), if_neg (by omega)]
theorem RevAt.step {α : Type} {l l' : List α} {i k : Nat} {x y : α} (h : RevAt l l' i) (hk : k + i + 1 = l.length) (hik : i < k) (hx : l'[i]? = some x) (hy : l'[k]? = some y) : RevAt l ((l'.set i y).set k x) (i + 1) := by
  have hx' : l[i]? = some x := by rw [← hx, h.mid (Nat.le_refl _) (by omega)]
  have hy' : l[k]? = some y := by rw [← hy, h.mid (by omega) (by omega)]
  refine ⟨by simp [h.1], fun j hj => ?_⟩
  by_cases hjk : j = k
  · subst hjk
    rw [List.getElem?_set_self (by simp [h.1]; omega), if_pos (by omega), show l.length - 1 - j = i by omega, hx']
  · rw [List.getElem?_set_ne (Ne.symm hjk)]
    by_cases hji : j = i
    · subst hji
      rw [List.getElem?_set_self (by rw [h.1]; omega), if_pos (by omega), show l.length - 1 - j = k by omega, hy']
    · rw [List.getElem?_set_ne (Ne.symm hji), h.2 j hj]
      by_cases hc : j < i ∨ l.length ≤ j + i
      · rw [if_pos hc, if_pos (by omega)]
      · rw [if_neg hc, if_neg (by omega)]
theorem RevAt.done {α : Type} {l l' : List α} {i : Nat} (h : RevAt l l' i) (hi : l.length ≤ i + i + 1) : l' = l.reverse := by
  apply List.ext_getElem?
  intro j
  by_cases hj : j < l.length
  · rw [h.2 j hj, List.getElem?_reverse hj]
    by_cases hc : j < i ∨ l.length ≤ j + i
    · rw [if_pos hc]
    · rw [if_neg hc, show l.length - 1 - j = j by omega]
  · rw [List.getElem?_eq_none (by rw [h.1]; omega), List.getElem?_eq_none (by simp; omega)]
def PathEndA (t : Tr) (i : Nat) (v : Value) (Γ : List SProp) (M : E.Loc) : Prop :=
  ∃ (us : Sl Int) (rs : Sl Bool) (u : List Nat) (b : List Bool), v = PathS.val ⟨(i : Int), us, rs⟩ ∧ Γ = [intsP us, boolsP rs] ∧ M = [] ∧ us.l = toI u ∧ rs.l = b ∧ WayTo t.p.ns t.p.root u b (i : Int)
theorem toI_snoc (u : List Nat) (q : Nat) : toI (u ++ [q]) = toI u ++ [(q : Int)] := by simp [toI]
theorem toI_rev (u : List Nat) : (toI u).reverse = toI u.reverse := by simp [toI]
theorem path_val (i : Int) (a a2 : Option Addr) (c c2 : Nat) (us : List Nat) (rs : List Bool) : PathS.val ⟨i, ⟨a, c, toI us.reverse⟩, ⟨a2, c2, rs.reverse⟩⟩ = .agg #[.int .i64 i, .slice a us.length c, .slice a2 rs.length c2] := by simp [PathS.val, Sl.val, toI]
/-- How long a way may be. -/
theorem way_len {ns : List Nod} {root : Int} {s : Sh} {a : Int} {u : List Nat} {b : List Bool} {c : Nat} (h : Hangs ns s a) (hw : WayTo ns root u b a) (hc : u.length + s.size ≤ c) (hl : b.length = u.length) : ∀ p ∈ s.places, ∃ u' b', WayTo ns root u' b' (p : Int) ∧ u'.length + 1 ≤ c ∧ b'.length = u'.length := by
  induction s generalizing a u b with
  | leaf i =>
    obtain ⟨rfl, _⟩ := h
    intro p hp
    simp [Sh.places] at hp
    subst hp
    exact ⟨u, b, hw, by simpa [Sh.size] using hc, hl⟩
  | node i l r h1 h2 =>
    obtain ⟨rfl, n, hn, hr, hg, hg'⟩ := h
    simp only [Sh.size] at hc
    intro p hp
    simp only [Sh.places, List.mem_cons, List.mem_append] at hp
    rcases hp with rfl | hp | hp
    · exact ⟨u, b, hw, by omega, hl⟩
    · exact h1 hg (WayTo.step (side := false) hw hn hr) (by simp; omega) (by simp [hl]) p hp
    · exact h2 hg' (WayTo.step (side := true) hw hn hr) (by simp; omega) (by simp [hl]) p hp
theorem way_of {t : PT} {s : Sh} {i : Nat} (hs : mayT t = some s) (hi : i < t.ns.length) : ∃ u b, WayTo t.ns t.root u b (i : Int) ∧ u.length ≤ 2000 ∧ b.length = u.length := by
  have hg := good_of hs
  have h1 := hg.size
  have h2 := hg.few
  obtain ⟨u, b, h3, h4, h5⟩ := way_len (c := 2000) hg.hangs WayTo.nil (by simp; omega) rfl i (hg.all i hi)
  exact ⟨u, b, h3, by omega, h5⟩
/-- What a way's end tells of a leaf. -/
theorem way_nb {t : PT} {s : Sh} {i : Nat} {x : Nod} {u : List Nat} {b : List Bool} (hs : mayT t = some s) (hx : t.ns[i]? = some x) (hr : x.route = false) (hw : WayTo t.ns t.root u b (i : Int)) :
    (u = [] ∧ b = [] ∧ s.nb i = none) ∨ ∃ (u' : List Nat) (b' : List Bool) (q : Nat) (n : Nod) (side : Bool) (l r : Sh), u = u' ++ [q] ∧ b = b' ++ [side] ∧ t.ns[q]? = some n ∧ n.route = true ∧ kidN n side = (i : Int) ∧ Hangs t.ns l n.left ∧ Hangs t.ns r n.right ∧ s.nb i = some (q, side, if side then l.last else r.first) := by
  have hg := good_of hs
  by_cases he : (i : Int) = t.root
  · rw [he] at hw
    obtain ⟨e1, e2⟩ := way_root hg hw
    have e3 : s = .leaf i := hangs_leaf (by rw [he]; exact hg.hangs) hx hr
    exact .inl ⟨e1, e2, by rw [e3]; rfl⟩
  · generalize hp : (i : Int) = y at hw
    cases hw with
    | nil => exact absurd hp he
    | @step u' b' q n side hw' hn hnr =>
      obtain ⟨l, r, h1, h2, h3⟩ := nb_spec hg.hangs hg.nodup (hg.all q (lt_of_get hn)) hn hnr hp.symm hx hr
      rw [← hp]
      exact .inr ⟨u', b', q, n, side, l, r, rfl, rfl, hn, hnr, hp.symm, h1, h2, h3⟩
theorem end_next {t : PT} {i : Nat} {side : Bool} {l r : Sh} {rg : Bool} (h : nextT t (i : Int) = some (if side then l.last else r.first)) (hrg : rg = side) :
    Value.tuple #[.int .i64 ((if rg then (if side then l else r).last else (if side then l else r).first : Nat) : Int), .bool true] = .tuple #[.int .i64 ((nextT t (i : Int)).getD 0 : Nat), .bool (nextT t (i : Int)).isSome] := by
  subst hrg
  rw [h]
  cases rg <;> rfl
theorem last_snoc (b : List Bool) (x : Bool) : (b ++ [x]).getLast?.getD false = x := by simp
end Go.Proofs.Ytmkodknmknfdkaa
set_option linter.unusedVariables false
set_option linter.unusedSimpArgs false
namespace Go.Proofs.Ytmkodknmknfdkaa
open E
set_option maxRecDepth 4000
theorem en34 : Enters Try.prog 34 := Enters.mk' Try.func34 rfl rfl
theorem en35 : Enters Try.prog 35 := Enters.mk' Try.func35 rfl rfl
theorem en80 : Enters Try.prog 80 := Enters.mk' Try.func80 rfl rfl
theorem en81 : Enters Try.prog 81 := Enters.mk' Try.func81 rfl rfl
theorem en82 : Enters Try.prog 82 := Enters.mk' Try.func82 rfl rfl
theorem en83 : Enters Try.prog 83 := Enters.mk' Try.func83 rfl rfl
theorem en107 : Enters Try.prog 107 := Enters.mk' Try.func107 rfl rfl
theorem en108 : Enters Try.prog 108 := Enters.mk' Try.func108 rfl rfl
theorem leaf80 (t : Tr) (at_ : Int) : Con Try.prog 80 [t.val, .int .i64 at_] [ndsP t.ns, psP t.ns.l] [] (fun v Γ M => v = .bool (leafT t.p at_) ∧ Γ = [] ∧ M = []) := by
  refine Con.body 27 Try.func80 rfl Try.ntmps80 rfl fun X H₀ L₀ => ?_
  refine At.seq ?_
  refine At.region ?_
  refine At.loud (l_box rfl) rfl ?_
  rintro _ _ _ ⟨b1, rfl, rfl, rfl⟩
  refine At.freeze 0 (φ := blk b1 _) rfl (fun _ h => blk_def.2 ⟨_, _, h⟩) ?_
  refine At.skim 1 rfl rfl ?_
  refine At.nil ?_
  refine At.then ?_
  refine At.seq ?_
  refine At.region ?_
  refine At.quiet (q_loadS t24 rfl (RdS.blk (.head _) (m := 2) rfl) rfl) rfl ?_
  refine At.call en21 rfl (may21 _) (fun _ h => ⟨h.2.2.1, h.2.2.2.1, trivial⟩) (List.Perm.refl _) rfl ?_
  rintro _ _ _ ⟨rfl, rfl, rfl⟩
  refine At.skim 1 rfl rfl ?_
  refine At.split (d := 7) rfl (fun hm => ?_) (fun hm => ?_)
  · skip
    refine At.skim 4 rfl rfl ?_
    refine At.splitP (d := 11) rfl (fun hge => ?_) (fun hge => ?_)
    · skip
      obtain ⟨i, rfl⟩ := Int.eq_ofNat_of_zero_le (show 0 ≤ at_ by omega)
      refine At.skim 1 rfl rfl ?_
      refine At.open rfl rfl ?_
      refine At.quiet (q_fieldAddr s24 rfl rfl rfl) rfl ?_
      refine At.open rfl rfl ?_
      refine At.quiet (q_load t22 rfl (Rd.blk (.head _) rfl)) rfl ?_
      refine At.open rfl rfl ?_
      refine At.quiet (q_len Try.underlying22 rfl) rfl ?_
      refine At.skim 3 rfl rfl ?_
      refine At.splitP (d := 18) rfl (fun hlt => ?_) (fun hlt => ?_)
      · skip
        have hi : i < t.ns.l.length := by omega
        obtain ⟨x, hx⟩ := get_of_lt hi
        have hxp : t.p.ns[i]? = some x.p := map_get hx
        refine At.know (prsP x.ps) (fun _ h => psP_get h.2.2.2.1 hx) ?_
        refine At.open rfl rfl ?_
        refine At.quiet (q_fieldAddr s24 rfl rfl rfl) rfl ?_
        refine At.open rfl rfl ?_
        refine At.quiet (q_load t22 rfl (Rd.blk (.tail _ (.head _)) rfl)) rfl ?_
        refine At.skim 1 rfl rfl ?_
        refine At.open rfl rfl ?_
        refine At.quiet (q_index Try.underlying22 t33 rfl (.tail _ (.tail _ (.tail _ (.head _)))) (by simp) rfl rfl (lt_of_get hx)) rfl ?_
        refine At.open rfl rfl ?_
        refine At.quiet (q_fieldAddr s33 rfl rfl rfl) rfl ?_
        refine At.open rfl rfl ?_
        refine At.quiet (q_load t4 rfl (Rd.sl (.tail _ (.tail _ (.tail _ (.head _)))) (map_get hx) rfl)) rfl ?_
        refine At.skim 3 rfl rfl ?_
        refine At.nil ?_
        refine At.then ?_
        refine At.ret ?_
        exact At.results (Γr := []) (M := []) rfl (RVals.cons (RVal.tmp rfl) RVals.nil) (.tail _ (.tail _ (.head _))) (fun _ _ => trivial) (.refl _) ⟨congrArg Value.bool ((leaf_at hm hxp).symm), rfl, rfl⟩
      · skip
        refine At.skim 9 rfl rfl ?_
        refine At.nil ?_
        refine At.then ?_
        refine At.ret ?_
        exact At.results (Γr := []) (M := []) rfl (RVals.cons (RVal.tmp rfl) RVals.nil) (.tail _ (.head _)) (fun _ _ => trivial) (.refl _) ⟨congrArg Value.bool ((leaf_out (by simp [Tr.p]; omega)).symm), rfl, rfl⟩
    · skip
      refine At.skim 16 rfl rfl ?_
      refine At.nil ?_
      refine At.then ?_
      refine At.ret ?_
      exact At.results (Γr := []) (M := []) rfl (RVals.cons (RVal.tmp rfl) RVals.nil) (.tail _ (.head _)) (fun _ _ => trivial) (.refl _) ⟨congrArg Value.bool ((leaf_neg (by omega)).symm), rfl, rfl⟩
  · skip
    refine At.skim 20 rfl rfl ?_
    refine At.nil ?_
    refine At.then ?_
    refine At.ret ?_
    exact At.results (Γr := []) (M := []) rfl (RVals.cons (RVal.tmp rfl) RVals.nil) (.tail _ (.head _)) (fun _ _ => trivial) (.refl _) ⟨congrArg Value.bool ((leaf_no hm).symm), rfl, rfl⟩
theorem end82 (t : Tr) (s : Sh) (at_ : Int) (rg : Bool) (hH : Hangs t.p.ns s at_) : Con Try.prog 82 [t.val, .int .i64 at_, .bool rg] [ndsP t.ns, psP t.ns.l] [] (fun v Γ M => v = .int .i64 ((if rg then s.last else s.first : Nat) : Int) ∧ Γ = [] ∧ M = []) := by
  refine Con.body 25 Try.func82 rfl Try.ntmps82 rfl fun X H₀ L₀ => ?_
  refine At.seq ?_
  refine At.region ?_
  refine At.loud (l_box rfl) rfl ?_
  rintro _ _ _ ⟨b1, rfl, rfl, rfl⟩
  refine At.freeze 0 (φ := blk b1 _) rfl (fun _ h => blk_def.2 ⟨_, _, h⟩) ?_
  refine At.skim 1 rfl rfl ?_
  refine At.nil ?_
  refine At.then ?_
  refine At.seq ?_
  refine At.block ?_
  refine At.loopK (ι := Sh × Int) [1, 7, 8, 9, 10, 11, 12, 13, 14, 15, 16, 17, 18, 19, 20, 21, 22, 23] (fun ⟨s1, at1⟩ => [(1, .int .i64 at1)]) (fun ⟨s1, at1⟩ => []) (fun ⟨s1, at1⟩ => []) _ (fun ⟨s1, at1⟩ => Hangs t.p.ns s1 at1 ∧ (if rg then s1.last else s1.first) = (if rg then s.last else s.first)) (fun ⟨s1, at1⟩ => s1.size) (s, at_) ⟨hH, rfl⟩ ⟨rfl, trivial⟩ (fun _ _ => trivial) (.refl _) ?_
  intro i0 hI0
  obtain ⟨s1, at1⟩ := i0
  obtain ⟨hH1, he⟩ := hI0
  obtain ⟨i, x, rfl, hx, hxg, hc⟩ := hH1.at
  refine At.know (prsP x.ps) (fun _ h => psP_get h.2.2.2.1 hx) ?_
  refine At.seq ?_
  refine At.seq ?_
  refine At.region ?_
  refine At.fld s24 t22 rfl rfl rfl (Rd.blk (.tail _ (.head _)) rfl) rfl rfl ?_
  refine At.skim 1 rfl rfl ?_
  refine At.quiet (q_index Try.underlying22 t33 rfl (.tail _ (.tail _ (.tail _ (.head _)))) (by simp) rfl rfl (lt_of_get hx)) rfl ?_
  refine At.fld s33 t4 rfl rfl rfl (Rd.sl (.tail _ (.tail _ (.tail _ (.head _)))) (map_get hx) rfl) rfl rfl ?_
  refine At.nil ?_
  refine At.then ?_
  refine At.cond rfl (fun hr => ?_) (fun hr => ?_)
  · skip
    obtain ⟨l, r, rfl, hl, hr2⟩ : ∃ l r, s1 = .node i l r ∧ Hangs t.p.ns l x.left ∧ Hangs t.p.ns r x.right := by
      rcases hc with ⟨h, _⟩ | ⟨_, h⟩
      · rw [show x.route = true from hr] at h; cases h
      · exact h
    refine At.skip ?_
    refine At.then ?_
    refine At.block ?_
    refine At.seq ?_
    refine At.region ?_
    refine At.fld s24 t22 rfl rfl rfl (Rd.blk (.tail _ (.head _)) rfl) rfl rfl ?_
    refine At.skim 1 rfl rfl ?_
    refine At.quiet (q_index Try.underlying22 t33 rfl (.tail _ (.tail _ (.tail _ (.head _)))) (by simp) rfl rfl (lt_of_get hx)) rfl ?_
    refine At.quiet (q_loadS t33 rfl (RdS.sl0 (.tail _ (.tail _ (.tail _ (.head _)))) (map_get hx)) rfl) rfl ?_
    refine At.loud (l_alloc t33) rfl ?_
    rintro _ _ _ ⟨b2, rfl, rfl, rfl⟩
    refine At.loudN (l_store t33 rfl rfl (i := 0) rfl rfl rfl rfl) ?_
    rintro _ _ _ ⟨rfl, rfl⟩
    refine At.nil ?_
    refine At.then ?_
    refine At.seq ?_
    refine At.region ?_
    refine At.skim 1 rfl rfl ?_
    refine At.nil ?_
    refine At.then ?_
    refine At.cond rfl (fun hg => ?_) (fun hg => ?_)
    · skip
      refine At.region ?_
      refine At.fld s33 t3 rfl rfl rfl (Rd.loc (i := 0) rfl rfl) rfl rfl ?_
      refine At.skim 1 rfl rfl ?_
      refine At.nil ?_
      refine At.inNormal ?_
      refine At.then ?_
      exact At.againK (r, x.right) ⟨hr2, by rw [← he, hg]; rfl⟩ (by simp only [Sh.size]; omega) (Tells.end 17 ⟨rfl, trivial⟩ rfl rfl) (fun _ h => h.2) (.cons _ (.refl _))
    · skip
      refine At.region ?_
      refine At.fld s33 t3 rfl rfl rfl (Rd.loc (i := 0) rfl rfl) rfl rfl ?_
      refine At.skim 1 rfl rfl ?_
      refine At.nil ?_
      refine At.inNormal ?_
      refine At.then ?_
      exact At.againK (l, x.left) ⟨hl, by rw [← he, hg]; rfl⟩ (by simp only [Sh.size]; omega) (Tells.end 17 ⟨rfl, trivial⟩ rfl rfl) (fun _ h => h.2) (.cons _ (.refl _))
  · skip
    obtain rfl : s1 = .leaf i := by
      rcases hc with ⟨_, h⟩ | ⟨h, _⟩
      · exact h
      · rw [show x.route = false from hr] at h; cases h
    refine At.exit ?_
    refine At.thenExit ?_
    refine At.thenExit ?_
    refine At.inHere rfl ?_
    refine At.then ?_
    refine At.seq ?_
    refine At.region ?_
    refine At.skim 2 rfl rfl ?_
    refine At.nil ?_
    refine At.then ?_
    refine At.ret ?_
    exact At.results (Γr := []) (M := []) rfl (RVals.cons (RVal.tmp rfl) RVals.nil) (.tail _ (.tail _ (.head _))) (fun _ _ => trivial) (.refl _) ⟨congrArg (Value.int .i64) (congrArg Int.ofNat (by rw [← he]; cases rg <;> rfl)), rfl, rfl⟩
theorem other83 (t : Tr) (us : Sl Int) (rs : Sl Bool) (leaf : Int) (q : Nat) (u : List Nat) (x : Nd) (hu : us.l = toI (u ++ [q])) (hx : t.ns.l[q]? = some x) : Con Try.prog 83 [t.val, PathS.val ⟨leaf, us, rs⟩] [ndsP t.ns, psP t.ns.l, intsP us, boolsP rs] [] (fun v Γ M => v = .int .i64 (if rs.l.getLast?.getD false then x.left else x.right) ∧ Γ = [] ∧ M = []) := by
  refine Con.body 24 Try.func83 rfl Try.ntmps83 rfl fun X H₀ L₀ => ?_
  have hul : us.l.length = u.length + 1 := by rw [hu, toI_length]; simp
  have hlast : us.l[u.length]? = some (q : Int) := by rw [hu, toI_snoc]; simp [toI]
  refine At.lenOf (hs := (.tail _ (.tail _ (.tail _ (.head _))))) fun hlus => ?_
  rw [List.length_map] at hlus
  refine At.know (prsP x.ps) (fun _ h => psP_get h.2.2.1 hx) ?_
  refine At.seq ?_
  refine At.region ?_
  refine At.loud (l_box rfl) rfl ?_
  rintro _ _ _ ⟨b1, rfl, rfl, rfl⟩
  refine At.freeze 0 (φ := blk b1 _) rfl (fun _ h => blk_def.2 ⟨_, _, h⟩) ?_
  refine At.loud (l_box rfl) rfl ?_
  rintro _ _ _ ⟨b2, rfl, rfl, rfl⟩
  refine At.freeze 0 (φ := blk b2 _) rfl (fun _ h => blk_def.2 ⟨_, _, h⟩) ?_
  refine At.skim 1 rfl rfl ?_
  refine At.nil ?_
  refine At.then ?_
  refine At.seq ?_
  refine At.draw 13 (.q 0 (.q 1 (.q 2 (.q 3 (.q 4 (.q 5 (.q 6 (.q 7 (.q 8 (.q 9 (.q 10 (.q 11 (.o 12 (.e)))))))))))))) _ (List.Sublist.refl _) mixed (by kernel_rfl) rfl ?_
  refine AtO.quiet rfl (q_fieldAddr s24 rfl rfl rfl) rfl (Calm.then Post.calm) ?_
  refine AtO.quiet rfl (q_load t22 rfl (Rd.blk (.tail _ (.head _)) rfl)) rfl (Calm.then Post.calm) ?_
  refine AtO.quiet rfl (q_fieldAddr s40 rfl rfl rfl) rfl (Calm.then Post.calm) ?_
  refine AtO.quiet rfl (q_load t37 rfl (Rd.blk (.head _) rfl)) rfl (Calm.then Post.calm) ?_
  refine AtO.quiet rfl (q_fieldAddr s40 rfl rfl rfl) rfl (Calm.then Post.calm) ?_
  refine AtO.quiet rfl (q_load t37 rfl (Rd.blk (.head _) rfl)) rfl (Calm.then Post.calm) ?_
  refine AtO.quiet rfl (q_len Try.underlying37 rfl) rfl (Calm.then Post.calm) ?_
  refine AtO.quiet rfl (q_sub rfl rfl (by dsimp only; omega) (by dsimp only; omega)) rfl (Calm.then Post.calm) ?_
  refine AtO.quiet rfl (q_index Try.underlying37 t3 rfl (.tail _ (.tail _ (.tail _ (.tail _ (.tail _ (.tail _ (.head _))))))) (by simp) rfl (by dsimp only; omega) (lt_of_get hlast)) rfl (Calm.then Post.calm) ?_
  refine AtO.quiet rfl (q_load t3 rfl (Rd.sl0 (.tail _ (.tail _ (.tail _ (.tail _ (.tail _ (.tail _ (.head _))))))) (map_get hlast) rfl)) rfl (Calm.then Post.calm) ?_
  refine AtO.quiet rfl (q_index Try.underlying22 t33 rfl (.tail _ (.tail _ (.tail _ (.tail _ (.head _))))) (by simp) rfl rfl (lt_of_get hx)) rfl (Calm.then Post.calm) ?_
  refine AtO.quiet rfl (q_loadS t33 rfl (RdS.sl0 (.tail _ (.tail _ (.tail _ (.tail _ (.head _))))) (map_get hx)) rfl) rfl (Calm.then Post.calm) ?_
  refine AtO.loudA rfl (l_alloc t33) rfl (by rintro _ _ _ ⟨_, rfl, rfl, rfl⟩; exact ⟨fun _ h => h, .cons _ (.refl _)⟩) ?_
  rintro _ _ _ ⟨b3, rfl, rfl, rfl⟩
  refine AtO.done ?_
  refine At.loudN (l_store t33 rfl rfl (i := 0) rfl rfl rfl rfl) ?_
  rintro _ _ _ ⟨rfl, rfl⟩
  refine At.nil ?_
  refine At.then ?_
  refine At.seq ?_
  refine At.seq ?_
  refine At.region ?_
  refine At.quiet (q_loadS t40 rfl (RdS.blk (.head _) (m := 3) rfl) rfl) rfl ?_
  refine At.call en32 rfl (right32 ⟨leaf, us, rs⟩) (fun _ h => ⟨h.2.2.2.2.2.2.2.1, trivial⟩) (List.Perm.refl _) rfl ?_
  rintro _ _ _ ⟨rfl, rfl, rfl⟩
  refine At.nil ?_
  refine At.then ?_
  refine At.cond rfl (fun hr => ?_) (fun hr => ?_)
  · skip
    refine At.seq ?_
    refine At.region ?_
    refine At.fld s33 t3 rfl rfl rfl (Rd.loc (i := 0) rfl rfl) rfl rfl ?_
    refine At.skim 1 rfl rfl ?_
    refine At.nil ?_
    refine At.then ?_
    refine At.ret ?_
    refine At.thenRet ?_
    exact At.results (Γr := []) (M := []) rfl (RVals.cons (RVal.tmp rfl) RVals.nil) (.tail _ (.tail _ (.tail _ (.head _)))) (fun _ _ => trivial) (.cons _ (.refl _)) ⟨congrArg (Value.int .i64) (by rw [show rs.l.getLast?.getD false = true from hr]; rfl), rfl, rfl⟩
  · skip
    refine At.skip ?_
    refine At.then ?_
    refine At.seq ?_
    refine At.region ?_
    refine At.fld s33 t3 rfl rfl rfl (Rd.loc (i := 0) rfl rfl) rfl rfl ?_
    refine At.skim 1 rfl rfl ?_
    refine At.nil ?_
    refine At.then ?_
    refine At.ret ?_
    exact At.results (Γr := []) (M := []) rfl (RVals.cons (RVal.tmp rfl) RVals.nil) (.tail _ (.tail _ (.tail _ (.head _)))) (fun _ _ => trivial) (.cons _ (.refl _)) ⟨congrArg (Value.int .i64) (by rw [show rs.l.getLast?.getD false = false from hr]; rfl), rfl, rfl⟩
theorem copied84 (t : Tr) (hsm : smallP t.ns.l) (hfew : t.ns.l.length ≤ 100000) : Con Try.prog 84 [t.val] [ndsP t.ns, psP t.ns.l] [] (CopyEnd t) := by
  refine Con.body 28 Try.func84 rfl Try.ntmps84 rfl fun X H₀ L₀ => ?_
  refine At.nilSeg ?_
  refine At.know (psP []) (fun _ h => psP_nil) ?_
  refine At.seq ?_
  refine At.region ?_
  refine At.loud (l_box rfl) rfl ?_
  rintro _ _ _ ⟨b1, rfl, rfl, rfl⟩
  refine At.freeze 0 (φ := blk b1 _) rfl (fun _ h => blk_def.2 ⟨_, _, h⟩) ?_
  refine At.loud (l_alloc t24) rfl ?_
  rintro _ _ _ ⟨b2, rfl, rfl, rfl⟩
  refine At.nil ?_
  refine At.then ?_
  refine At.seq ?_
  refine At.region ?_
  refine At.fld s24 t3 rfl rfl rfl (Rd.blk (.head _) rfl) rfl rfl ?_
  refine At.quiet (q_build t24 s24 rfl rfl) rfl ?_
  refine At.loud (l_alloc t24) rfl ?_
  rintro _ _ _ ⟨b3, rfl, rfl, rfl⟩
  refine At.loudN (l_store t24 rfl rfl (i := 0) rfl rfl rfl rfl) ?_
  rintro _ _ _ ⟨rfl, rfl⟩
  refine At.nil ?_
  refine At.then ?_
  refine At.seq ?_
  refine At.seq ?_
  refine At.region ?_
  refine At.fld s24 t22 rfl rfl rfl (Rd.blk (.head _) rfl) rfl rfl ?_
  refine At.quiet (q_len Try.underlying22 rfl) rfl ?_
  refine At.skim 1 rfl rfl ?_
  refine At.nil ?_
  refine At.then ?_
  refine At.block ?_
  refine At.front 2 rfl ?_
  refine At.front 1 rfl ?_
  refine At.loopK (ι := Nat × List Nd × Option Addr × Nat × Seg) [5, 12, 13, 14, 15, 16, 17, 18, 19, 20, 21, 22, 23, 24, 25, 26] (fun ⟨k, o, a, c, M⟩ => [(12, .int .i64 (k : Int))]) (fun ⟨k, o, a, c, M⟩ => [psP o]) (fun ⟨k, o, a, c, M⟩ => [[(b3, .cells #[.int .i64 t.root, .slice a k c] 24 (0, 0))], M]) _ (fun ⟨k, o, a, c, M⟩ => k ≤ t.ns.l.length ∧ Own 33 6 (o.map rowN) a c M ∧ o.length = k ∧ o.map Nd.p = t.p.ns.take k) (fun ⟨k, o, a, c, M⟩ => t.ns.l.length - k) (0, [], none, 0, []) ⟨Nat.zero_le _, Own.nil _ _, rfl, by simp⟩ ⟨rfl, trivial⟩ (fun _ _ => ⟨psP_nil, trivial⟩) (.cons_cons _ (.cons_cons _ (.refl _))) ?_
  intro i0 hI0
  obtain ⟨k, o, a, c, M⟩ := i0
  obtain ⟨hkl, hO, hok, hoe⟩ := hI0
  refine At.seq ?_
  refine At.region ?_
  refine At.skim 1 rfl rfl ?_
  refine At.nil ?_
  refine At.then ?_
  refine At.seq ?_
  refine At.if rfl (fun hk => ?_) (fun hk => ?_)
  · skip
    obtain ⟨y, hy⟩ := get_of_lt (l := t.ns.l) (i := k) (by omega)
    have hk1 := lt_of_get hy
    have hys := hsm y (List.mem_of_getElem? hy)
    refine At.know (prsP y.ps) (fun _ h => psP_get h.2.2.2.2.2.1 hy) ?_
    refine At.skip ?_
    refine At.then ?_
    refine At.seq ?_
    refine At.block ?_
    refine At.seq ?_
    refine At.region ?_
    refine At.quiet (q_index Try.underlying22 t33 rfl (.tail _ (.tail _ (.tail _ (.tail _ (.tail _ (.head _)))))) (by simp) rfl rfl (lt_of_get hy)) rfl ?_
    refine At.quiet (q_loadS t33 rfl (RdS.sl0 (.tail _ (.tail _ (.tail _ (.tail _ (.tail _ (.head _)))))) (map_get hy)) rfl) rfl ?_
    refine At.loud (l_alloc t33) rfl ?_
    rintro _ _ _ ⟨b4, rfl, rfl, rfl⟩
    refine At.loudN (l_store t33 rfl rfl (i := 0) rfl rfl rfl rfl) ?_
    rintro _ _ _ ⟨rfl, rfl⟩
    refine At.nil ?_
    refine At.then ?_
    refine At.seq ?_
    refine At.region ?_
    refine At.fld s33 t31 rfl rfl rfl (Rd.loc (i := 0) rfl rfl) rfl rfl ?_
    refine At.call en72 rfl (clone72 y.ps hys) (fun _ h => ⟨h.1, trivial⟩) (List.Perm.refl _) rfl ?_
    rintro _ _ _ ⟨s0, rfl, hs0, rfl, rfl⟩
    refine At.quiet (q_fieldAddr s33 rfl rfl rfl) rfl ?_
    refine At.loudN (l_store t31 rfl rfl (i := 0) rfl rfl rfl rfl) ?_
    rintro _ _ _ ⟨rfl, rfl⟩
    refine At.nil ?_
    refine At.then ?_
    refine At.region ?_
    refine At.fld s24 t22 rfl rfl rfl (Rd.loc (i := 1) rfl rfl) rfl rfl ?_
    refine At.quiet (q_loadS t33 rfl (RdS.loc (i := 0) rfl (m := 6) rfl) rfl) rfl ?_
    refine At.loud (l_buildSlice Try.underlying22 t33 rfl rfl rfl rfl rfl) rfl ?_
    rintro _ _ _ ⟨b5, rfl, rfl, rfl⟩
    refine At.loud (l_append rfl Try.underlying22 t33 rfl rfl hO (by simp; omega) (i := 3) rfl rfl (news := [rowN { y with ps := s0 }]) (by simp [rowN]) (RdS.loc (i := 0) rfl (m := 6) rfl) rfl rfl rfl (by omega) (by unfold maxLen; omega)) rfl ?_
    rintro _ _ _ ⟨a2, c2, M2, rfl, ow, rfl, rfl⟩
    refine At.quiet (q_fieldAddr s24 rfl rfl rfl) rfl ?_
    refine At.loudN (l_store t22 rfl rfl (i := 2) rfl rfl rfl rfl) ?_
    rintro _ _ _ ⟨rfl, rfl⟩
    refine At.nil ?_
    refine At.inNormal ?_
    refine At.then ?_
    refine At.region ?_
    refine At.know (psP (o ++ [{ y with ps := s0 }])) (fun _ h => psP_snoc (n := { y with ps := s0 }) h.2.2.1 h.1) ?_
    refine At.quiet (q_add rfl rfl (by omega) (by omega)) rfl ?_
    refine At.skim 1 rfl rfl ?_
    refine At.nil ?_
    refine At.front 3 rfl ?_
    refine At.front 3 rfl ?_
    refine At.then ?_
    exact At.againK (k + 1, o ++ [{ y with ps := s0 }], a2, c2, M2) ⟨hk1, by simpa using ow, by simp; omega, copy_step (s0 := s0) hoe hs0 (map_get hy)⟩ (by (try dsimp only); omega) (Tells.end 17 ⟨rfl, trivial⟩ rfl rfl) (fun _ h => ⟨h.1, h.2.2.2.2⟩) (.cons_cons _ (.cons_cons _ (.cons _ (.cons _ (.refl _)))))
  · skip
    have hoe2 : o.map Nd.p = t.p.ns := by rw [hoe, List.take_of_length_le (by simp [Tr.p]; omega)]
    subst hok
    refine At.exit ?_
    refine At.thenExit ?_
    refine At.thenExit ?_
    refine At.inHere rfl ?_
    refine At.then ?_
    refine At.seq ?_
    refine At.region ?_
    refine At.quiet (q_loadS t24 rfl (RdS.loc (i := 0) rfl (m := 2) rfl) rfl) rfl ?_
    refine At.loudN (l_store t24 rfl rfl (i := 2) rfl rfl rfl rfl) ?_
    rintro _ _ _ ⟨rfl, rfl⟩
    refine At.nil ?_
    refine At.then ?_
    refine At.ret ?_
    exact At.results (Γr := [psP o]) (M := [M]) rfl (RVals.cons (RVal.cellS rfl t24 (RdS.loc (i := 2) rfl (m := 2) rfl) rfl) RVals.nil) (.tail _ (.tail _ (.tail _ (.head _)))) (fun _ h => ⟨h.1, trivial⟩) (.cons _ (.cons_cons _ (.cons _ (.refl _)))) ⟨⟨t.root, ⟨a, c, o⟩⟩, M, rfl, rfl, rfl, hO, by simp only [Tr.p]; exact congrArg (PT.mk t.root) hoe2⟩
theorem rev107 (l : List Int) (a : Option Addr) (c : Nat) (M0 : Seg) (hO0 : Own 3 1 (l.map rowI) a c M0) (hl : l.length ≤ 4000000) : Con Try.prog 107 [.slice a l.length c] [] [M0] (fun v Γ M => ∃ M1, Γ = [] ∧ M = [M1] ∧ Own 3 1 (l.reverse.map rowI) a c M1) := by
  refine Con.body 28 Try.func107 rfl Try.ntmps107 rfl fun X H₀ L₀ => ?_
  refine At.seq ?_
  refine At.region ?_
  refine At.skim 1 rfl rfl ?_
  refine At.quiet (q_len Try.underlying37 rfl) rfl ?_
  refine At.quiet (q_sub rfl rfl (by omega) (by omega)) rfl ?_
  refine At.skim 2 rfl rfl ?_
  refine At.nil ?_
  refine At.then ?_
  refine At.block ?_
  refine At.say 3 (.int .i64 ((l.length : Int) - 1 - ((0 : Nat) : Int))) rfl (congrArg (Value.int .i64) (by simp)) ?_
  refine At.loopK (ι := Nat × List Int × Seg) [2, 3, 7, 8, 9, 10, 11, 12, 13, 14, 15, 16, 17, 18, 19, 20, 21, 22, 23, 24, 25, 26, 27] (fun ⟨i, o, M⟩ => [(2, .int .i64 (i : Int)), (3, .int .i64 ((l.length : Int) - 1 - (i : Int)))]) (fun ⟨i, o, M⟩ => []) (fun ⟨i, o, M⟩ => [M]) _ (fun ⟨i, o, M⟩ => RevAt l o i ∧ Own 3 1 (o.map rowI) a c M ∧ i + i ≤ l.length + 1) (fun ⟨i, o, M⟩ => l.length + 1 - i - i) (0, l, M0) ⟨RevAt.start l, hO0, by omega⟩ ⟨rfl, rfl, trivial⟩ (fun _ _ => trivial) (.cons_cons _ (.refl _)) ?_
  intro i0 hI0
  obtain ⟨i, o, M⟩ := i0
  obtain ⟨hR, hO, hi2⟩ := hI0
  refine At.seq ?_
  refine At.seq ?_
  refine At.region ?_
  refine At.skim 3 rfl rfl ?_
  refine At.nil ?_
  refine At.then ?_
  refine At.if rfl (fun hlt => ?_) (fun hlt => ?_)
  · skip
    obtain ⟨k, hk⟩ : ∃ k : Nat, k + i + 1 = l.length := ⟨l.length - 1 - i, by omega⟩
    have hik : i < k := by omega
    have hol := hR.1
    obtain ⟨x, hx⟩ := get_of_lt (l := o) (i := i) (by omega)
    obtain ⟨y, hy⟩ := get_of_lt (l := o) (i := k) (by omega)
    have hi3 : i < l.length := by omega
    have hk3 : k < l.length := by omega
    refine At.skip ?_
    refine At.then ?_
    refine At.seq ?_
    refine At.block ?_
    refine At.draw 14 (.q 0 (.q 1 (.q 2 (.q 3 (.q 4 (.q 5 (.q 6 (.q 8 (.q 9 (.q 10 (.t 7 (.o 11 (.q 12 (.o 13 (.e)))) 11 (.o 7 (.q 12 (.o 13 (.e))))))))))))))) (L₀) (.cons _ (.refl _)) mixed (by kernel_rfl) rfl ?_
    refine AtO.quiet rfl (q_move rfl) rfl (Calm.inBlock (Calm.then (Calm.then (Calm.inBlock Post.calm)))) ?_
    refine AtO.quiet rfl (q_move rfl) rfl (Calm.inBlock (Calm.then (Calm.then (Calm.inBlock Post.calm)))) ?_
    refine AtO.quiet rfl (q_move rfl) rfl (Calm.inBlock (Calm.then (Calm.then (Calm.inBlock Post.calm)))) ?_
    refine AtO.quiet rfl (q_move rfl) rfl (Calm.inBlock (Calm.then (Calm.then (Calm.inBlock Post.calm)))) ?_
    refine AtO.quiet rfl (q_move rfl) rfl (Calm.inBlock (Calm.then (Calm.then (Calm.inBlock Post.calm)))) ?_
    refine AtO.quiet rfl (q_move rfl) rfl (Calm.inBlock (Calm.then (Calm.then (Calm.inBlock Post.calm)))) ?_
    refine AtO.quiet rfl (q_indexOwn Try.underlying37 t3 rfl hO (by simp [hol]) rfl (by omega) hk3) rfl (Calm.inBlock (Calm.then (Calm.then (Calm.inBlock Post.calm)))) ?_
    refine AtO.quiet rfl (q_move rfl) rfl (Calm.inBlock (Calm.then (Calm.then (Calm.inBlock Post.calm)))) ?_
    refine AtO.quiet rfl (q_move rfl) rfl (Calm.inBlock (Calm.then (Calm.then (Calm.inBlock Post.calm)))) ?_
    refine AtO.quiet rfl (q_indexOwn Try.underlying37 t3 rfl hO (by simp [hol]) rfl rfl hi3) rfl (Calm.inBlock (Calm.then (Calm.then (Calm.inBlock Post.calm)))) ?_
    refine AtO.two ?_ ?_
    · skip
      refine AtO.loud rfl (Quiet.loud (q_load t3 rfl (Rd.own0 hO (i := 0) rfl (map_get hy) rfl))) rfl (by rintro _ _ _ ⟨rfl, rfl, rfl⟩; exact ⟨fun _ h => h, (.cons _ (.refl _))⟩) ?_
      rintro _ _ _ ⟨rfl, rfl, rfl⟩
      refine AtO.loud rfl (Quiet.loud (q_load t3 rfl (Rd.own0 hO (i := 0) rfl (map_get hx) rfl))) rfl (by rintro _ _ _ ⟨rfl, rfl, rfl⟩; exact ⟨fun _ h => h, (.cons _ (.refl _))⟩) ?_
      rintro _ _ _ ⟨rfl, rfl, rfl⟩
      refine AtO.quiet rfl (q_indexOwn Try.underlying37 t3 rfl hO (by simp [hol]) rfl rfl hi3) rfl (Calm.inBlock (Calm.then (Calm.then (Calm.inBlock Post.calm)))) ?_
      refine AtO.loudNA rfl (l_storeOwn0 t3 rfl rfl hO (i := 0) rfl (map_get hx) rfl rfl rfl) (by rintro _ _ _ ⟨_, _, rfl, rfl⟩; exact ⟨fun _ h => h, (.cons _ (.refl _))⟩) ?_
      rintro _ _ _ ⟨Mow1, ow1, rfl, rfl⟩
      refine AtO.done ?_
      refine At.quiet (q_indexOwn Try.underlying37 t3 rfl hO (by simp [hol]) rfl (by omega) hk3) rfl ?_
      refine At.loudN (l_storeOwn0 t3 rfl rfl (show Own 3 1 ((o.set i y).map rowI) a c _ by rw [List.map_set]; exact ow1) (i := 0) rfl (map_get (show (o.set i y)[k]? = some y by rw [List.getElem?_set_ne (by omega)]; exact hy)) rfl rfl rfl) ?_
      rintro _ _ _ ⟨Mow2, ow2, rfl, rfl⟩
      refine At.nil ?_
      refine At.inNormal ?_
      refine At.then ?_
      refine At.region ?_
      have hO2 : Own 3 1 (((o.set i y).set k x).map rowI) a c Mow2 := by rw [List.map_set]; exact ow2
      refine At.skim 1 rfl rfl ?_
      refine At.quiet (q_add rfl rfl (by omega) (by omega)) rfl ?_
      refine At.skim 1 rfl rfl ?_
      refine At.quiet (q_sub rfl rfl (by omega) (by omega)) rfl ?_
      refine At.skim 2 rfl rfl ?_
      refine At.nil ?_
      refine At.say 3 (.int .i64 ((l.length : Int) - 1 - ((i + 1 : Nat) : Int))) rfl (congrArg (Value.int .i64) (by omega)) ?_
      refine At.then ?_
      exact At.againK (i + 1, (o.set i y).set k x, _) ⟨hR.step hk hik hx hy, hO2, by omega⟩ (by (try dsimp only); omega) (Tells.end 26 ⟨rfl, rfl, trivial⟩ rfl rfl) (fun _ h => h) (.cons_cons _ (.refl _))
    · skip
      refine AtO.loud rfl (Quiet.loud (q_load t3 rfl (Rd.own0 hO (i := 0) rfl (map_get hx) rfl))) rfl (by rintro _ _ _ ⟨rfl, rfl, rfl⟩; exact ⟨fun _ h => h, (.cons _ (.refl _))⟩) ?_
      rintro _ _ _ ⟨rfl, rfl, rfl⟩
      refine AtO.loud rfl (Quiet.loud (q_load t3 rfl (Rd.own0 hO (i := 0) rfl (map_get hy) rfl))) rfl (by rintro _ _ _ ⟨rfl, rfl, rfl⟩; exact ⟨fun _ h => h, (.cons _ (.refl _))⟩) ?_
      rintro _ _ _ ⟨rfl, rfl, rfl⟩
      refine AtO.quiet rfl (q_indexOwn Try.underlying37 t3 rfl hO (by simp [hol]) rfl rfl hi3) rfl (Calm.inBlock (Calm.then (Calm.then (Calm.inBlock Post.calm)))) ?_
      refine AtO.loudNA rfl (l_storeOwn0 t3 rfl rfl hO (i := 0) rfl (map_get hx) rfl rfl rfl) (by rintro _ _ _ ⟨_, _, rfl, rfl⟩; exact ⟨fun _ h => h, (.cons _ (.refl _))⟩) ?_
      rintro _ _ _ ⟨Mow3, ow3, rfl, rfl⟩
      refine AtO.done ?_
      refine At.quiet (q_indexOwn Try.underlying37 t3 rfl hO (by simp [hol]) rfl (by omega) hk3) rfl ?_
      refine At.loudN (l_storeOwn0 t3 rfl rfl (show Own 3 1 ((o.set i y).map rowI) a c _ by rw [List.map_set]; exact ow3) (i := 0) rfl (map_get (show (o.set i y)[k]? = some y by rw [List.getElem?_set_ne (by omega)]; exact hy)) rfl rfl rfl) ?_
      rintro _ _ _ ⟨Mow4, ow4, rfl, rfl⟩
      refine At.nil ?_
      refine At.inNormal ?_
      refine At.then ?_
      refine At.region ?_
      have hO2 : Own 3 1 (((o.set i y).set k x).map rowI) a c Mow4 := by rw [List.map_set]; exact ow4
      refine At.skim 1 rfl rfl ?_
      refine At.quiet (q_add rfl rfl (by omega) (by omega)) rfl ?_
      refine At.skim 1 rfl rfl ?_
      refine At.quiet (q_sub rfl rfl (by omega) (by omega)) rfl ?_
      refine At.skim 2 rfl rfl ?_
      refine At.nil ?_
      refine At.say 3 (.int .i64 ((l.length : Int) - 1 - ((i + 1 : Nat) : Int))) rfl (congrArg (Value.int .i64) (by omega)) ?_
      refine At.then ?_
      exact At.againK (i + 1, (o.set i y).set k x, _) ⟨hR.step hk hik hx hy, hO2, by omega⟩ (by (try dsimp only); omega) (Tells.end 26 ⟨rfl, rfl, trivial⟩ rfl rfl) (fun _ h => h) (.cons_cons _ (.refl _))
  · skip
    obtain rfl := hR.done (by omega)
    refine At.exit ?_
    refine At.thenExit ?_
    refine At.thenExit ?_
    refine At.inHere rfl ?_
    exact At.resultsN (Γr := []) (M := [M]) rfl RVals.nil (.head _) (fun _ _ => trivial) (.cons_cons _ (.refl _)) ⟨M, rfl, rfl, hO⟩
theorem rev108 (l : List Bool) (a : Option Addr) (c : Nat) (M0 : Seg) (hO0 : Own 4 1 (l.map rowB) a c M0) (hl : l.length ≤ 4000000) : Con Try.prog 108 [.slice a l.length c] [] [M0] (fun v Γ M => ∃ M1, Γ = [] ∧ M = [M1] ∧ Own 4 1 (l.reverse.map rowB) a c M1) := by
  refine Con.body 28 Try.func108 rfl Try.ntmps108 rfl fun X H₀ L₀ => ?_
  refine At.seq ?_
  refine At.region ?_
  refine At.skim 1 rfl rfl ?_
  refine At.quiet (q_len Try.underlying38 rfl) rfl ?_
  refine At.quiet (q_sub rfl rfl (by omega) (by omega)) rfl ?_
  refine At.skim 2 rfl rfl ?_
  refine At.nil ?_
  refine At.then ?_
  refine At.block ?_
  refine At.say 3 (.int .i64 ((l.length : Int) - 1 - ((0 : Nat) : Int))) rfl (congrArg (Value.int .i64) (by simp)) ?_
  refine At.loopK (ι := Nat × List Bool × Seg) [2, 3, 7, 8, 9, 10, 11, 12, 13, 14, 15, 16, 17, 18, 19, 20, 21, 22, 23, 24, 25, 26, 27] (fun ⟨i, o, M⟩ => [(2, .int .i64 (i : Int)), (3, .int .i64 ((l.length : Int) - 1 - (i : Int)))]) (fun ⟨i, o, M⟩ => []) (fun ⟨i, o, M⟩ => [M]) _ (fun ⟨i, o, M⟩ => RevAt l o i ∧ Own 4 1 (o.map rowB) a c M ∧ i + i ≤ l.length + 1) (fun ⟨i, o, M⟩ => l.length + 1 - i - i) (0, l, M0) ⟨RevAt.start l, hO0, by omega⟩ ⟨rfl, rfl, trivial⟩ (fun _ _ => trivial) (.cons_cons _ (.refl _)) ?_
  intro i0 hI0
  obtain ⟨i, o, M⟩ := i0
  obtain ⟨hR, hO, hi2⟩ := hI0
  refine At.seq ?_
  refine At.seq ?_
  refine At.region ?_
  refine At.skim 3 rfl rfl ?_
  refine At.nil ?_
  refine At.then ?_
  refine At.if rfl (fun hlt => ?_) (fun hlt => ?_)
  · skip
    obtain ⟨k, hk⟩ : ∃ k : Nat, k + i + 1 = l.length := ⟨l.length - 1 - i, by omega⟩
    have hik : i < k := by omega
    have hol := hR.1
    obtain ⟨x, hx⟩ := get_of_lt (l := o) (i := i) (by omega)
    obtain ⟨y, hy⟩ := get_of_lt (l := o) (i := k) (by omega)
    have hi3 : i < l.length := by omega
    have hk3 : k < l.length := by omega
    refine At.skip ?_
    refine At.then ?_
    refine At.seq ?_
    refine At.block ?_
    refine At.draw 14 (.q 0 (.q 1 (.q 2 (.q 3 (.q 4 (.q 5 (.q 6 (.q 8 (.q 9 (.q 10 (.t 7 (.o 11 (.q 12 (.o 13 (.e)))) 11 (.o 7 (.q 12 (.o 13 (.e))))))))))))))) (L₀) (.cons _ (.refl _)) mixed (by kernel_rfl) rfl ?_
    refine AtO.quiet rfl (q_move rfl) rfl (Calm.inBlock (Calm.then (Calm.then (Calm.inBlock Post.calm)))) ?_
    refine AtO.quiet rfl (q_move rfl) rfl (Calm.inBlock (Calm.then (Calm.then (Calm.inBlock Post.calm)))) ?_
    refine AtO.quiet rfl (q_move rfl) rfl (Calm.inBlock (Calm.then (Calm.then (Calm.inBlock Post.calm)))) ?_
    refine AtO.quiet rfl (q_move rfl) rfl (Calm.inBlock (Calm.then (Calm.then (Calm.inBlock Post.calm)))) ?_
    refine AtO.quiet rfl (q_move rfl) rfl (Calm.inBlock (Calm.then (Calm.then (Calm.inBlock Post.calm)))) ?_
    refine AtO.quiet rfl (q_move rfl) rfl (Calm.inBlock (Calm.then (Calm.then (Calm.inBlock Post.calm)))) ?_
    refine AtO.quiet rfl (q_indexOwn Try.underlying38 t4 rfl hO (by simp [hol]) rfl (by omega) hk3) rfl (Calm.inBlock (Calm.then (Calm.then (Calm.inBlock Post.calm)))) ?_
    refine AtO.quiet rfl (q_move rfl) rfl (Calm.inBlock (Calm.then (Calm.then (Calm.inBlock Post.calm)))) ?_
    refine AtO.quiet rfl (q_move rfl) rfl (Calm.inBlock (Calm.then (Calm.then (Calm.inBlock Post.calm)))) ?_
    refine AtO.quiet rfl (q_indexOwn Try.underlying38 t4 rfl hO (by simp [hol]) rfl rfl hi3) rfl (Calm.inBlock (Calm.then (Calm.then (Calm.inBlock Post.calm)))) ?_
    refine AtO.two ?_ ?_
    · skip
      refine AtO.loud rfl (Quiet.loud (q_load t4 rfl (Rd.own0 hO (i := 0) rfl (map_get hy) rfl))) rfl (by rintro _ _ _ ⟨rfl, rfl, rfl⟩; exact ⟨fun _ h => h, (.cons _ (.refl _))⟩) ?_
      rintro _ _ _ ⟨rfl, rfl, rfl⟩
      refine AtO.loud rfl (Quiet.loud (q_load t4 rfl (Rd.own0 hO (i := 0) rfl (map_get hx) rfl))) rfl (by rintro _ _ _ ⟨rfl, rfl, rfl⟩; exact ⟨fun _ h => h, (.cons _ (.refl _))⟩) ?_
      rintro _ _ _ ⟨rfl, rfl, rfl⟩
      refine AtO.quiet rfl (q_indexOwn Try.underlying38 t4 rfl hO (by simp [hol]) rfl rfl hi3) rfl (Calm.inBlock (Calm.then (Calm.then (Calm.inBlock Post.calm)))) ?_
      refine AtO.loudNA rfl (l_storeOwn0 t4 rfl rfl hO (i := 0) rfl (map_get hx) rfl rfl rfl) (by rintro _ _ _ ⟨_, _, rfl, rfl⟩; exact ⟨fun _ h => h, (.cons _ (.refl _))⟩) ?_
      rintro _ _ _ ⟨Mow1, ow1, rfl, rfl⟩
      refine AtO.done ?_
      refine At.quiet (q_indexOwn Try.underlying38 t4 rfl hO (by simp [hol]) rfl (by omega) hk3) rfl ?_
      refine At.loudN (l_storeOwn0 t4 rfl rfl (show Own 4 1 ((o.set i y).map rowB) a c _ by rw [List.map_set]; exact ow1) (i := 0) rfl (map_get (show (o.set i y)[k]? = some y by rw [List.getElem?_set_ne (by omega)]; exact hy)) rfl rfl rfl) ?_
      rintro _ _ _ ⟨Mow2, ow2, rfl, rfl⟩
      refine At.nil ?_
      refine At.inNormal ?_
      refine At.then ?_
      refine At.region ?_
      have hO2 : Own 4 1 (((o.set i y).set k x).map rowB) a c Mow2 := by rw [List.map_set]; exact ow2
      refine At.skim 1 rfl rfl ?_
      refine At.quiet (q_add rfl rfl (by omega) (by omega)) rfl ?_
      refine At.skim 1 rfl rfl ?_
      refine At.quiet (q_sub rfl rfl (by omega) (by omega)) rfl ?_
      refine At.skim 2 rfl rfl ?_
      refine At.nil ?_
      refine At.say 3 (.int .i64 ((l.length : Int) - 1 - ((i + 1 : Nat) : Int))) rfl (congrArg (Value.int .i64) (by omega)) ?_
      refine At.then ?_
      exact At.againK (i + 1, (o.set i y).set k x, _) ⟨hR.step hk hik hx hy, hO2, by omega⟩ (by (try dsimp only); omega) (Tells.end 26 ⟨rfl, rfl, trivial⟩ rfl rfl) (fun _ h => h) (.cons_cons _ (.refl _))
    · skip
      refine AtO.loud rfl (Quiet.loud (q_load t4 rfl (Rd.own0 hO (i := 0) rfl (map_get hx) rfl))) rfl (by rintro _ _ _ ⟨rfl, rfl, rfl⟩; exact ⟨fun _ h => h, (.cons _ (.refl _))⟩) ?_
      rintro _ _ _ ⟨rfl, rfl, rfl⟩
      refine AtO.loud rfl (Quiet.loud (q_load t4 rfl (Rd.own0 hO (i := 0) rfl (map_get hy) rfl))) rfl (by rintro _ _ _ ⟨rfl, rfl, rfl⟩; exact ⟨fun _ h => h, (.cons _ (.refl _))⟩) ?_
      rintro _ _ _ ⟨rfl, rfl, rfl⟩
      refine AtO.quiet rfl (q_indexOwn Try.underlying38 t4 rfl hO (by simp [hol]) rfl rfl hi3) rfl (Calm.inBlock (Calm.then (Calm.then (Calm.inBlock Post.calm)))) ?_
      refine AtO.loudNA rfl (l_storeOwn0 t4 rfl rfl hO (i := 0) rfl (map_get hx) rfl rfl rfl) (by rintro _ _ _ ⟨_, _, rfl, rfl⟩; exact ⟨fun _ h => h, (.cons _ (.refl _))⟩) ?_
      rintro _ _ _ ⟨Mow3, ow3, rfl, rfl⟩
      refine AtO.done ?_
      refine At.quiet (q_indexOwn Try.underlying38 t4 rfl hO (by simp [hol]) rfl (by omega) hk3) rfl ?_
      refine At.loudN (l_storeOwn0 t4 rfl rfl (show Own 4 1 ((o.set i y).map rowB) a c _ by rw [List.map_set]; exact ow3) (i := 0) rfl (map_get (show (o.set i y)[k]? = some y by rw [List.getElem?_set_ne (by omega)]; exact hy)) rfl rfl rfl) ?_
      rintro _ _ _ ⟨Mow4, ow4, rfl, rfl⟩
      refine At.nil ?_
      refine At.inNormal ?_
      refine At.then ?_
      refine At.region ?_
      have hO2 : Own 4 1 (((o.set i y).set k x).map rowB) a c Mow4 := by rw [List.map_set]; exact ow4
      refine At.skim 1 rfl rfl ?_
      refine At.quiet (q_add rfl rfl (by omega) (by omega)) rfl ?_
      refine At.skim 1 rfl rfl ?_
      refine At.quiet (q_sub rfl rfl (by omega) (by omega)) rfl ?_
      refine At.skim 2 rfl rfl ?_
      refine At.nil ?_
      refine At.say 3 (.int .i64 ((l.length : Int) - 1 - ((i + 1 : Nat) : Int))) rfl (congrArg (Value.int .i64) (by omega)) ?_
      refine At.then ?_
      exact At.againK (i + 1, (o.set i y).set k x, _) ⟨hR.step hk hik hx hy, hO2, by omega⟩ (by (try dsimp only); omega) (Tells.end 26 ⟨rfl, rfl, trivial⟩ rfl rfl) (fun _ h => h) (.cons_cons _ (.refl _))
  · skip
    obtain rfl := hR.done (by omega)
    refine At.exit ?_
    refine At.thenExit ?_
    refine At.thenExit ?_
    refine At.inHere rfl ?_
    exact At.resultsN (Γr := []) (M := [M]) rfl RVals.nil (.head _) (fun _ _ => trivial) (.cons_cons _ (.refl _)) ⟨M, rfl, rfl, hO⟩
theorem path81 (t : Tr) (s : Sh) (hs : mayT t.p = some s) (i : Nat) (hi : i < t.p.ns.length) : Con Try.prog 81 [t.val, .int .i64 (i : Int)] [ndsP t.ns, psP t.ns.l] [] (PathEndA t i) := by
  refine Con.body 66 Try.func81 rfl Try.ntmps81 rfl fun X H₀ L₀ => ?_
  refine At.lenOf (hs := (.tail _ (.head _))) fun hlen => ?_
  rw [List.length_map] at hlen
  have hN : t.p.ns.length = t.ns.l.length := by simp [Tr.p]
  have hg := good_of hs
  obtain ⟨U, B, hW0, hUl, hBl⟩ := way_of hs hi
  refine At.seq ?_
  refine At.region ?_
  refine At.loud (l_box rfl) rfl ?_
  rintro _ _ _ ⟨b1, rfl, rfl, rfl⟩
  refine At.freeze 0 (φ := blk b1 _) rfl (fun _ h => blk_def.2 ⟨_, _, h⟩) ?_
  refine At.loud (l_alloc t40) rfl ?_
  rintro _ _ _ ⟨b2, rfl, rfl, rfl⟩
  refine At.nil ?_
  refine At.then ?_
  refine At.seq ?_
  refine At.region ?_
  refine At.loud (l_makeMap) rfl ?_
  rintro _ _ _ ⟨bm, mp, rfl, hM0, rfl, rfl⟩
  refine At.skim 1 rfl rfl ?_
  refine At.nil ?_
  refine At.then ?_
  refine At.seq ?_
  refine At.seq ?_
  refine At.region ?_
  refine At.fld s24 t22 rfl rfl rfl (Rd.blk (.head _) rfl) rfl rfl ?_
  refine At.quiet (q_len Try.underlying22 rfl) rfl ?_
  refine At.skim 1 rfl rfl ?_
  refine At.nil ?_
  refine At.then ?_
  refine At.block ?_
  refine At.loopK (ι := Nat × Seg) [6, 7, 14, 15, 16, 17, 18, 19, 20, 21, 22, 23, 24, 25, 26, 27, 28, 29] (fun ⟨k, M⟩ => [(14, .int .i64 (k : Int))]) (fun ⟨k, M⟩ => []) (fun ⟨k, M⟩ => [M]) _ (fun ⟨k, M⟩ => k ≤ t.ns.l.length ∧ OwnMap (parUpto t.p.ns k) bm M) (fun ⟨k, M⟩ => t.ns.l.length - k) (0, mp) ⟨Nat.zero_le _, hM0⟩ ⟨rfl, trivial⟩ (fun _ _ => trivial) (.cons_cons _ (.refl _)) ?_
  intro i0 hI0
  obtain ⟨k, M⟩ := i0
  obtain ⟨hkN, hM⟩ := hI0
  refine At.seq ?_
  refine At.region ?_
  refine At.skim 1 rfl rfl ?_
  refine At.nil ?_
  refine At.then ?_
  refine At.seq ?_
  refine At.if rfl (fun hk => ?_) (fun hk => ?_)
  · skip
    obtain ⟨x, hx⟩ := get_of_lt (l := t.ns.l) (i := k) (by omega)
    have hk1 := lt_of_get hx
    have hxp : t.p.ns[k]? = some x.p := map_get hx
    refine At.know (prsP x.ps) (fun _ h => psP_get h.2.2.2.1 hx) ?_
    refine At.skip ?_
    refine At.then ?_
    refine At.seq ?_
    refine At.block ?_
    refine At.seq ?_
    refine At.region ?_
    refine At.skim 1 rfl rfl ?_
    refine At.quiet (q_index Try.underlying22 t33 rfl (.tail _ (.tail _ (.tail _ (.head _)))) (by simp) rfl rfl (lt_of_get hx)) rfl ?_
    refine At.quiet (q_loadS t33 rfl (RdS.sl0 (.tail _ (.tail _ (.tail _ (.head _)))) (map_get hx)) rfl) rfl ?_
    refine At.loud (l_alloc t33) rfl ?_
    rintro _ _ _ ⟨b3, rfl, rfl, rfl⟩
    refine At.skim 1 rfl rfl ?_
    refine At.loudN (l_store t33 rfl rfl (i := 0) rfl rfl rfl rfl) ?_
    rintro _ _ _ ⟨rfl, rfl⟩
    refine At.nil ?_
    refine At.then ?_
    refine At.seq ?_
    refine At.region ?_
    refine At.fld s33 t4 rfl rfl rfl (Rd.loc (i := 0) rfl rfl) rfl rfl ?_
    refine At.nil ?_
    refine At.then ?_
    refine At.cond rfl (fun hr => ?_) (fun hr => ?_)
    · skip
      refine At.draw 9 (.q 0 (.q 1 (.q 2 (.q 3 (.q 4 (.q 5 (.q 6 (.q 7 (.o 8 (.e)))))))))) (_ :: _ :: L₀) (.cons_cons _ (.cons _ (.cons_cons _ (.refl _)))) mixed (by kernel_rfl) rfl ?_
      refine AtO.quiet rfl (q_move rfl) rfl (Calm.inBlock (Calm.then (Calm.then (Calm.inBlock (Calm.then Post.calm))))) ?_
      refine AtO.quiet rfl (q_fieldAddr s33 rfl rfl rfl) rfl (Calm.inBlock (Calm.then (Calm.then (Calm.inBlock (Calm.then Post.calm))))) ?_
      refine AtO.quiet rfl (q_load t3 rfl (Rd.loc (i := 0) rfl rfl)) rfl (Calm.inBlock (Calm.then (Calm.then (Calm.inBlock (Calm.then Post.calm))))) ?_
      refine AtO.quiet rfl (q_move rfl) rfl (Calm.inBlock (Calm.then (Calm.then (Calm.inBlock (Calm.then Post.calm))))) ?_
      refine AtO.quiet rfl (q_fieldAddr s33 rfl rfl rfl) rfl (Calm.inBlock (Calm.then (Calm.then (Calm.inBlock (Calm.then Post.calm))))) ?_
      refine AtO.quiet rfl (q_load t3 rfl (Rd.loc (i := 0) rfl rfl)) rfl (Calm.inBlock (Calm.then (Calm.then (Calm.inBlock (Calm.then Post.calm))))) ?_
      refine AtO.quiet rfl (q_move rfl) rfl (Calm.inBlock (Calm.then (Calm.then (Calm.inBlock (Calm.then Post.calm))))) ?_
      refine AtO.quiet rfl (q_move rfl) rfl (Calm.inBlock (Calm.then (Calm.then (Calm.inBlock (Calm.then Post.calm))))) ?_
      refine AtO.loudNA rfl (l_mapUpdate Try.underlying70 Try.underlying3 rfl rfl rfl hM (i := 1) rfl) (by rintro _ _ _ ⟨_, _, rfl, rfl⟩; exact ⟨fun _ h => h, (.cons_cons _ (.cons _ (.cons_cons _ (.refl _))))⟩) ?_
      rintro _ _ _ ⟨Mmp1, mp1, rfl, rfl⟩
      refine AtO.done ?_
      refine At.loudN (l_mapUpdate Try.underlying70 Try.underlying3 rfl rfl rfl mp1 (i := 1) rfl) ?_
      rintro _ _ _ ⟨Mmp2, mp2, rfl, rfl⟩
      refine At.nil ?_
      refine At.inNormal ?_
      refine At.then ?_
      refine At.region ?_
      have hM2 : OwnMap (parUpto t.p.ns (k + 1)) bm Mmp2 := by rw [← par_route hxp hr]; exact mp2
      refine At.quiet (q_add rfl rfl (by omega) (by omega)) rfl ?_
      refine At.skim 1 rfl rfl ?_
      refine At.nil ?_
      refine At.front 1 rfl ?_
      refine At.then ?_
      exact At.againK (k + 1, _) ⟨hk1, hM2⟩ (by (try dsimp only); omega) (Tells.end 19 ⟨rfl, trivial⟩ rfl rfl) (fun _ h => h.2) (.cons_cons _ (.cons _ (.refl _)))
    · skip
      refine At.skip ?_
      refine At.inNormal ?_
      refine At.then ?_
      refine At.region ?_
      refine At.quiet (q_add rfl rfl (by omega) (by omega)) rfl ?_
      refine At.skim 1 rfl rfl ?_
      refine At.nil ?_
      refine At.front 1 rfl ?_
      refine At.then ?_
      exact At.againK (k + 1, M) ⟨hk1, by rw [← par_leaf hxp hr]; exact hM⟩ (by (try dsimp only); omega) (Tells.end 11 ⟨rfl, trivial⟩ rfl rfl) (fun _ h => h.2) (.cons_cons _ (.cons _ (.refl _)))
  · skip
    obtain rfl : k = t.ns.l.length := by omega
    have hMf : OwnMap (parUpto t.p.ns t.p.ns.length) bm M := by rw [hN]; exact hM
    refine At.nilSeg ?_
    refine At.nilSeg ?_
    refine At.exit ?_
    refine At.thenExit ?_
    refine At.thenExit ?_
    refine At.inHere rfl ?_
    refine At.then ?_
    refine At.seq ?_
    refine At.region ?_
    refine At.skim 1 rfl rfl ?_
    refine At.quiet (q_build t40 s40 rfl rfl) rfl ?_
    refine At.loud (l_alloc t40) rfl ?_
    rintro _ _ _ ⟨b4, rfl, rfl, rfl⟩
    refine At.loudN (l_store t40 rfl rfl (i := 0) rfl rfl rfl rfl) ?_
    rintro _ _ _ ⟨rfl, rfl⟩
    refine At.nil ?_
    refine At.then ?_
    refine At.seq ?_
    refine At.block ?_
    refine At.front 2 rfl ?_
    refine At.front 2 rfl ?_
    refine At.front 2 rfl ?_
    refine At.loopK (ι := (Nat × List Nat × List Bool) × (Nat × List Nat × Option Addr × Nat × Seg) × (Nat × List Bool × Option Addr × Nat × Seg)) [1, 9, 32, 33, 34, 35, 36, 37, 38, 39, 40, 41, 42, 43, 44, 45, 46, 47, 48, 49, 50, 51, 52, 53, 54, 55, 56, 57, 58] (fun ⟨⟨p, wu, wb⟩, ⟨n1, us, a1, c1, M1⟩, ⟨n2, rs, a2, c2, M2⟩⟩ => [(1, .int .i64 (p : Int))]) (fun ⟨⟨p, wu, wb⟩, ⟨n1, us, a1, c1, M1⟩, ⟨n2, rs, a2, c2, M2⟩⟩ => []) (fun ⟨⟨p, wu, wb⟩, ⟨n1, us, a1, c1, M1⟩, ⟨n2, rs, a2, c2, M2⟩⟩ => [[(b4, .cells #[.int .i64 (i : Int), .slice a1 n1 c1, .slice a2 n2 c2] 40 (0, 0))], M1, M2]) _ (fun ⟨⟨p, wu, wb⟩, ⟨n1, us, a1, c1, M1⟩, ⟨n2, rs, a2, c2, M2⟩⟩ => WayTo t.p.ns t.p.root wu wb (p : Int) ∧ U = wu ++ us.reverse ∧ B = wb ++ rs.reverse ∧ Own 3 1 ((toI us).map rowI) a1 c1 M1 ∧ Own 4 1 (rs.map rowB) a2 c2 M2 ∧ wu.length + us.length ≤ 2000 ∧ rs.length = us.length ∧ n1 = us.length ∧ n2 = rs.length) (fun ⟨⟨p, wu, wb⟩, ⟨n1, us, a1, c1, M1⟩, ⟨n2, rs, a2, c2, M2⟩⟩ => wu.length) ((i, U, B), (0, [], none, 0, []), (0, [], none, 0, [])) ⟨hW0, by simp, by simp, Own.nil _ _, Own.nil _ _, by simpa using hUl, rfl, rfl, rfl⟩ ⟨rfl, trivial⟩ (fun _ _ => trivial) (.cons_cons _ (.cons_cons _ (.cons_cons _ (.refl _)))) ?_
    intro i1 hI1
    obtain ⟨⟨p, wu, wb⟩, ⟨n1, us, a1, c1, M1⟩, ⟨n2, rs, a2, c2, M2⟩⟩ := i1
    obtain ⟨hW, hU, hB, hO1, hO2, hsz, hrl, hn1, hn2⟩ := hI1
    refine At.seq ?_
    refine At.seq ?_
    refine At.region ?_
    refine At.skim 1 rfl rfl ?_
    refine At.fld s24 t3 rfl rfl rfl (Rd.blk (.head _) rfl) rfl rfl ?_
    refine At.skim 1 rfl rfl ?_
    refine At.nil ?_
    refine At.then ?_
    refine At.if rfl (fun hne => ?_) (fun hne => ?_)
    · skip
      obtain ⟨wu2, wb2, q, n, rfl, hW2, hn, hnr, rfl, hpar⟩ := way_up hg hW hne
      obtain ⟨y, hy, hyp⟩ := p_get (u := t) rfl hn
      refine At.skip ?_
      refine At.then ?_
      refine At.block ?_
      refine At.seq ?_
      refine At.region ?_
      refine At.skim 2 rfl rfl ?_
      refine At.quiet (q_lookup Try.underlying70 Try.underlying3 t3 rfl rfl hMf (i := 3) rfl) rfl ?_
      refine At.say 38 (.int .i64 (q : Int)) rfl (congrArg (Value.int .i64) (by rw [hpar]; rfl)) ?_
      refine At.skim 1 rfl rfl ?_
      refine At.nil ?_
      refine At.then ?_
      refine At.front 2 rfl ?_
      refine At.front 2 rfl ?_
      refine At.front 2 rfl ?_
      refine At.cutD (ι := (Option Addr × Nat × Seg) × (Option Addr × Nat × Seg)) (.s (.s (.s .z))) [39, 40, 41, 42, 43, 44, 45, 46, 47, 48, 49, 50, 51, 52, 53, 54, 55, 56, 57] (fun ⟨⟨a3, c3, M3⟩, ⟨a4, c4, M4⟩⟩ => []) (fun ⟨⟨a3, c3, M3⟩, ⟨a4, c4, M4⟩⟩ => []) (fun ⟨⟨a3, c3, M3⟩, ⟨a4, c4, M4⟩⟩ => [[(b4, .cells #[.int .i64 (i : Int), .slice a3 (n1 + 1) c3, .slice a4 (n2 + 1) c4] 40 (0, 0))], M3, M4]) (fun ⟨⟨a3, c3, M3⟩, ⟨a4, c4, M4⟩⟩ => Own 3 1 ((toI (us ++ [q])).map rowI) a3 c3 M3 ∧ Own 4 1 ((rs ++ [decide (n.right = (p : Int))]).map rowB) a4 c4 M4) ?_ ?_
      · skip
        have hyr : y.right = n.right := by rw [← hyp]; rfl
        refine At.know (prsP y.ps) (fun _ h => psP_get h.2.2.2.1 hy) ?_
        refine At.draw 18 (.q 0 (.q 1 (.q 2 (.q 5 (.q 6 (.q 7 (.q 8 (.q 9 (.q 10 (.q 11 (.q 12 (.q 13 (.q 14 (.t 3 (.t 4 (.q 17 (.o 15 (.o 16 (.e)))) 15 (.o 4 (.q 17 (.o 16 (.e))))) 15 (.o 3 (.o 4 (.q 17 (.o 16 (.e))))))))))))))))))) (_ :: _ :: L₀) (.cons_cons _ (.cons _ (.cons _ (.cons _ (.cons_cons _ (.refl _)))))) mixed (by kernel_rfl) rfl ?_
        refine AtO.quiet rfl (q_fieldAddr s40 rfl rfl rfl) rfl (Calm.then (Calm.inBlock (Calm.then (Calm.inBlock (Calm.then Post.calm))))) ?_
        refine AtO.quiet rfl (q_load t37 rfl (Rd.loc (i := 0) rfl rfl)) rfl (Calm.then (Calm.inBlock (Calm.then (Calm.inBlock (Calm.then Post.calm))))) ?_
        refine AtO.quiet rfl (q_move rfl) rfl (Calm.then (Calm.inBlock (Calm.then (Calm.inBlock (Calm.then Post.calm))))) ?_
        refine AtO.quiet rfl (q_fieldAddr s40 rfl rfl rfl) rfl (Calm.then (Calm.inBlock (Calm.then (Calm.inBlock (Calm.then Post.calm))))) ?_
        refine AtO.quiet rfl (q_load t38 rfl (Rd.loc (i := 0) rfl rfl)) rfl (Calm.then (Calm.inBlock (Calm.then (Calm.inBlock (Calm.then Post.calm))))) ?_
        refine AtO.quiet rfl (q_fieldAddr s24 rfl rfl rfl) rfl (Calm.then (Calm.inBlock (Calm.then (Calm.inBlock (Calm.then Post.calm))))) ?_
        refine AtO.quiet rfl (q_load t22 rfl (Rd.blk (.tail _ (.head _)) rfl)) rfl (Calm.then (Calm.inBlock (Calm.then (Calm.inBlock (Calm.then Post.calm))))) ?_
        refine AtO.quiet rfl (q_move rfl) rfl (Calm.then (Calm.inBlock (Calm.then (Calm.inBlock (Calm.then Post.calm))))) ?_
        refine AtO.quiet rfl (q_index Try.underlying22 t33 rfl (.tail _ (.tail _ (.tail _ (.head _)))) (by simp) rfl rfl (lt_of_get hy)) rfl (Calm.then (Calm.inBlock (Calm.then (Calm.inBlock (Calm.then Post.calm))))) ?_
        refine AtO.quiet rfl (q_fieldAddr s33 rfl rfl rfl) rfl (Calm.then (Calm.inBlock (Calm.then (Calm.inBlock (Calm.then Post.calm))))) ?_
        refine AtO.quiet rfl (q_load t3 rfl (Rd.sl (.tail _ (.tail _ (.tail _ (.head _)))) (map_get hy) rfl)) rfl (Calm.then (Calm.inBlock (Calm.then (Calm.inBlock (Calm.then Post.calm))))) ?_
        refine AtO.quiet rfl (q_move rfl) rfl (Calm.then (Calm.inBlock (Calm.then (Calm.inBlock (Calm.then Post.calm))))) ?_
        refine AtO.quiet rfl (q_eql rfl rfl) rfl (Calm.then (Calm.inBlock (Calm.then (Calm.inBlock (Calm.then Post.calm))))) ?_
        refine AtO.two ?_ ?_
        · skip
          refine AtO.loud rfl (l_buildSlice Try.underlying37 t3 rfl rfl rfl rfl rfl) rfl (by rintro _ _ _ ⟨_, rfl, rfl, rfl⟩; exact ⟨fun _ h => h, .cons _ (.cons_cons _ (.cons _ (.cons _ (.cons _ (.cons_cons _ (.refl _))))))⟩) ?_
          rintro _ _ _ ⟨b5, rfl, rfl, rfl⟩
          refine AtO.two ?_ ?_
          · skip
            refine AtO.loud rfl (l_append rfl Try.underlying37 t3 rfl rfl hO1 (by simp [toI]; omega) (i := 2) rfl rfl (news := [rowI (q : Int)]) (by simp [rowI]) (RdS.loc (i := 0) rfl (m := 1) rfl) rfl rfl rfl (by omega) (by unfold maxLen; omega)) rfl (by rintro _ _ _ ⟨_, _, _, rfl, _, rfl, rfl⟩; exact ⟨fun _ h => h, (.cons _ (.cons_cons _ (.cons _ (.cons _ (.cons _ (.cons_cons _ (.refl _)))))))⟩) ?_
            rintro _ _ _ ⟨a3, c3, M3, rfl, ow3, rfl, rfl⟩
            refine AtO.quiet rfl (q_fieldAddr s40 rfl rfl rfl) rfl (Calm.then (Calm.inBlock (Calm.then (Calm.inBlock (Calm.then Post.calm))))) ?_
            refine AtO.loud rfl (l_buildSlice Try.underlying38 t4 rfl rfl rfl rfl rfl) rfl (by rintro _ _ _ ⟨_, rfl, rfl, rfl⟩; exact ⟨fun _ h => h, .cons _ (.cons _ (.cons_cons _ (.cons _ (.cons _ (.cons _ (.cons_cons _ (.refl _)))))))⟩) ?_
            rintro _ _ _ ⟨b6, rfl, rfl, rfl⟩
            refine AtO.loudA rfl (l_append rfl Try.underlying38 t4 rfl rfl hO2 (by simp; omega) (i := 4) rfl rfl (news := [rowB (decide (y.right = (p : Int)))]) (by simp [rowB]) (RdS.loc (i := 0) rfl (m := 1) rfl) rfl rfl rfl (by omega) (by unfold maxLen; omega)) rfl (by rintro _ _ _ ⟨_, _, _, rfl, _, rfl, rfl⟩; exact ⟨fun _ h => h, (.cons _ (.cons _ (.cons_cons _ (.cons _ (.cons _ (.cons _ (.cons_cons _ (.refl _))))))))⟩) ?_
            rintro _ _ _ ⟨a4, c4, M4, rfl, ow4, rfl, rfl⟩
            refine AtO.done ?_
            refine At.loudN (l_store t37 rfl rfl (i := 2) rfl rfl rfl rfl) ?_
            rintro _ _ _ ⟨rfl, rfl⟩
            refine At.quiet (q_fieldAddr s40 rfl rfl rfl) rfl ?_
            refine At.loudN (l_store t38 rfl rfl (i := 2) rfl rfl rfl rfl) ?_
            rintro _ _ _ ⟨rfl, rfl⟩
            refine At.nil ?_
            refine At.front 4 rfl ?_
            refine At.front 4 rfl ?_
            refine At.front 4 rfl ?_
            refine At.then ?_
            exact At.meetK (⟨a3, c3, M3⟩, ⟨a4, c4, M4⟩) ⟨by rw [toI_snoc]; simpa using ow3, by rw [← hyr]; simpa using ow4⟩ (Tells.meet 19 trivial rfl rfl) (fun _ h => h.2) (.cons_cons _ (.cons_cons _ (.cons_cons _ (.cons _ (.cons _ (.refl _))))))
          · skip
            refine AtO.loud rfl (l_buildSlice Try.underlying38 t4 rfl rfl rfl rfl rfl) rfl (by rintro _ _ _ ⟨_, rfl, rfl, rfl⟩; exact ⟨fun _ h => h, .cons _ (.cons _ (.cons_cons _ (.cons _ (.cons _ (.cons _ (.cons_cons _ (.refl _)))))))⟩) ?_
            rintro _ _ _ ⟨b7, rfl, rfl, rfl⟩
            refine AtO.loud rfl (l_append rfl Try.underlying37 t3 rfl rfl hO1 (by simp [toI]; omega) (i := 3) rfl rfl (news := [rowI (q : Int)]) (by simp [rowI]) (RdS.loc (i := 1) rfl (m := 1) rfl) rfl rfl rfl (by omega) (by unfold maxLen; omega)) rfl (by rintro _ _ _ ⟨_, _, _, rfl, _, rfl, rfl⟩; exact ⟨fun _ h => h, (.cons _ (.cons _ (.cons_cons _ (.cons _ (.cons _ (.cons _ (.cons_cons _ (.refl _))))))))⟩) ?_
            rintro _ _ _ ⟨a3, c3, M3, rfl, ow3, rfl, rfl⟩
            refine AtO.quiet rfl (q_fieldAddr s40 rfl rfl rfl) rfl (Calm.then (Calm.inBlock (Calm.then (Calm.inBlock (Calm.then Post.calm))))) ?_
            refine AtO.loudA rfl (l_append rfl Try.underlying38 t4 rfl rfl hO2 (by simp; omega) (i := 4) rfl rfl (news := [rowB (decide (y.right = (p : Int)))]) (by simp [rowB]) (RdS.loc (i := 0) rfl (m := 1) rfl) rfl rfl rfl (by omega) (by unfold maxLen; omega)) rfl (by rintro _ _ _ ⟨_, _, _, rfl, _, rfl, rfl⟩; exact ⟨fun _ h => h, (.cons _ (.cons _ (.cons_cons _ (.cons _ (.cons _ (.cons _ (.cons_cons _ (.refl _))))))))⟩) ?_
            rintro _ _ _ ⟨a4, c4, M4, rfl, ow4, rfl, rfl⟩
            refine AtO.done ?_
            refine At.loudN (l_store t37 rfl rfl (i := 2) rfl rfl rfl rfl) ?_
            rintro _ _ _ ⟨rfl, rfl⟩
            refine At.quiet (q_fieldAddr s40 rfl rfl rfl) rfl ?_
            refine At.loudN (l_store t38 rfl rfl (i := 2) rfl rfl rfl rfl) ?_
            rintro _ _ _ ⟨rfl, rfl⟩
            refine At.nil ?_
            refine At.front 4 rfl ?_
            refine At.front 4 rfl ?_
            refine At.front 4 rfl ?_
            refine At.then ?_
            exact At.meetK (⟨a3, c3, M3⟩, ⟨a4, c4, M4⟩) ⟨by rw [toI_snoc]; simpa using ow3, by rw [← hyr]; simpa using ow4⟩ (Tells.meet 19 trivial rfl rfl) (fun _ h => h.2) (.cons_cons _ (.cons_cons _ (.cons_cons _ (.cons _ (.cons _ (.refl _))))))
        · skip
          refine AtO.loud rfl (l_buildSlice Try.underlying38 t4 rfl rfl rfl rfl rfl) rfl (by rintro _ _ _ ⟨_, rfl, rfl, rfl⟩; exact ⟨fun _ h => h, .cons _ (.cons_cons _ (.cons _ (.cons _ (.cons _ (.cons_cons _ (.refl _))))))⟩) ?_
          rintro _ _ _ ⟨b8, rfl, rfl, rfl⟩
          refine AtO.loud rfl (l_buildSlice Try.underlying37 t3 rfl rfl rfl rfl rfl) rfl (by rintro _ _ _ ⟨_, rfl, rfl, rfl⟩; exact ⟨fun _ h => h, .cons _ (.cons _ (.cons_cons _ (.cons _ (.cons _ (.cons _ (.cons_cons _ (.refl _)))))))⟩) ?_
          rintro _ _ _ ⟨b9, rfl, rfl, rfl⟩
          refine AtO.loud rfl (l_append rfl Try.underlying37 t3 rfl rfl hO1 (by simp [toI]; omega) (i := 3) rfl rfl (news := [rowI (q : Int)]) (by simp [rowI]) (RdS.loc (i := 0) rfl (m := 1) rfl) rfl rfl rfl (by omega) (by unfold maxLen; omega)) rfl (by rintro _ _ _ ⟨_, _, _, rfl, _, rfl, rfl⟩; exact ⟨fun _ h => h, (.cons _ (.cons _ (.cons_cons _ (.cons _ (.cons _ (.cons _ (.cons_cons _ (.refl _))))))))⟩) ?_
          rintro _ _ _ ⟨a3, c3, M3, rfl, ow3, rfl, rfl⟩
          refine AtO.quiet rfl (q_fieldAddr s40 rfl rfl rfl) rfl (Calm.then (Calm.inBlock (Calm.then (Calm.inBlock (Calm.then Post.calm))))) ?_
          refine AtO.loudA rfl (l_append rfl Try.underlying38 t4 rfl rfl hO2 (by simp; omega) (i := 4) rfl rfl (news := [rowB (decide (y.right = (p : Int)))]) (by simp [rowB]) (RdS.loc (i := 1) rfl (m := 1) rfl) rfl rfl rfl (by omega) (by unfold maxLen; omega)) rfl (by rintro _ _ _ ⟨_, _, _, rfl, _, rfl, rfl⟩; exact ⟨fun _ h => h, (.cons _ (.cons _ (.cons_cons _ (.cons _ (.cons _ (.cons _ (.cons_cons _ (.refl _))))))))⟩) ?_
          rintro _ _ _ ⟨a4, c4, M4, rfl, ow4, rfl, rfl⟩
          refine AtO.done ?_
          refine At.loudN (l_store t37 rfl rfl (i := 2) rfl rfl rfl rfl) ?_
          rintro _ _ _ ⟨rfl, rfl⟩
          refine At.quiet (q_fieldAddr s40 rfl rfl rfl) rfl ?_
          refine At.loudN (l_store t38 rfl rfl (i := 2) rfl rfl rfl rfl) ?_
          rintro _ _ _ ⟨rfl, rfl⟩
          refine At.nil ?_
          refine At.front 4 rfl ?_
          refine At.front 4 rfl ?_
          refine At.front 4 rfl ?_
          refine At.then ?_
          exact At.meetK (⟨a3, c3, M3⟩, ⟨a4, c4, M4⟩) ⟨by rw [toI_snoc]; simpa using ow3, by rw [← hyr]; simpa using ow4⟩ (Tells.meet 19 trivial rfl rfl) (fun _ h => h.2) (.cons_cons _ (.cons_cons _ (.cons_cons _ (.cons _ (.cons _ (.refl _))))))
      intro j0 hMt
      obtain ⟨⟨a3, c3, M3⟩, ⟨a4, c4, M4⟩⟩ := j0
      obtain ⟨hO3, hO4⟩ := hMt
      refine At.region ?_
      refine At.skim 2 rfl rfl ?_
      refine At.nil ?_
      refine At.inNormal ?_
      refine At.front 2 rfl ?_
      refine At.front 2 rfl ?_
      refine At.front 2 rfl ?_
      refine At.then ?_
      exact At.againK ((q, wu2, wb2), (n1 + 1, us ++ [q], a3, c3, M3), (n2 + 1, rs ++ [decide (n.right = (p : Int))], a4, c4, M4)) ⟨hW2, by rw [hU]; simp, by rw [hB]; simp, hO3, hO4, by simp at hsz ⊢; omega, by simp [hrl], by simp [hn1], by simp [hn2]⟩ (by simp) (Tells.end 12 ⟨rfl, trivial⟩ rfl rfl) (fun _ h => h) (.cons_cons _ (.cons_cons _ (.cons_cons _ (.refl _))))
    · skip
      have hpr : (p : Int) = t.p.root := Classical.not_not.1 hne
      rw [hpr] at hW
      obtain ⟨rfl, rfl⟩ := way_root hg hW
      subst hn1
      subst hn2
      have hlu : (toI us).length = us.length := toI_length us
      refine At.exit ?_
      refine At.thenExit ?_
      refine At.thenExit ?_
      refine At.inHere rfl ?_
      refine At.then ?_
      refine At.seq ?_
      refine At.region ?_
      refine At.fld s40 t37 rfl rfl rfl (Rd.loc (i := 0) rfl rfl) rfl rfl ?_
      refine At.say 60 (.slice a1 (toI us).length c1) rfl (by rw [hlu]; rfl) ?_
      refine At.front 1 rfl ?_
      refine At.call en107 rfl (rev107 (toI us) a1 c1 M1 hO1 (by rw [hlu]; simp at hsz; omega)) (fun _ _ => trivial) (List.Perm.refl _) rfl ?_
      rintro _ _ _ ⟨M5, rfl, rfl, hO5⟩
      refine At.nil ?_
      refine At.then ?_
      refine At.seq ?_
      refine At.region ?_
      refine At.fld s40 t38 rfl rfl rfl (Rd.loc (i := 1) rfl rfl) rfl rfl ?_
      refine At.front 2 rfl ?_
      refine At.call en108 rfl (rev108 rs a2 c2 M2 hO2 (by simp at hsz; omega)) (fun _ _ => trivial) (List.Perm.refl _) rfl ?_
      rintro _ _ _ ⟨M6, rfl, rfl, hO6⟩
      refine At.nil ?_
      refine At.then ?_
      refine At.seq ?_
      refine At.region ?_
      rw [toI_rev] at hO5
      refine At.freezeOwn 1 hO5 rfl ?_
      refine At.freezeOwn 0 hO6 rfl ?_
      refine At.quiet (q_loadS t40 rfl (RdS.loc (i := 0) rfl (m := 3) rfl) rfl) rfl ?_
      refine At.loudN (l_store t40 rfl rfl (i := 2) rfl rfl rfl rfl) ?_
      rintro _ _ _ ⟨rfl, rfl⟩
      refine At.nil ?_
      refine At.then ?_
      refine At.ret ?_
      exact At.results (Γr := [intsP ⟨a1, c1, toI us.reverse⟩, boolsP ⟨a2, c2, rs.reverse⟩]) (M := []) rfl (RVals.cons (RVal.cellS rfl t40 (RdS.loc (i := 2) rfl (m := 3) rfl) rfl) RVals.nil) (.tail _ (.tail _ (.tail _ (.head _)))) (fun _ h => ⟨h.2.1, h.1, trivial⟩) (.cons _ (.cons _ (.cons _ (.refl _)))) ⟨⟨a1, c1, toI us.reverse⟩, ⟨a2, c2, rs.reverse⟩, U, B, by rw [path_val]; rfl, rfl, rfl, by rw [hU]; rfl, by rw [hB]; rfl, hW0⟩
theorem next46 (t : Tr) (at_ : Int) : Con Try.prog 46 [t.val, .int .i64 at_] [ndsP t.ns, psP t.ns.l] [] (fun v Γ M => v = .tuple #[.int .i64 ((nextT t.p at_).getD 0 : Nat), .bool (nextT t.p at_).isSome] ∧ Γ = [] ∧ M = []) := by
  refine Con.body 23 Try.func46 rfl Try.ntmps46 rfl fun X H₀ L₀ => ?_
  refine At.seq ?_
  refine At.region ?_
  refine At.loud (l_box rfl) rfl ?_
  rintro _ _ _ ⟨b1, rfl, rfl, rfl⟩
  refine At.freeze 0 (φ := blk b1 _) rfl (fun _ h => blk_def.2 ⟨_, _, h⟩) ?_
  refine At.skim 2 rfl rfl ?_
  refine At.nil ?_
  refine At.then ?_
  refine At.seq ?_
  refine At.seq ?_
  refine At.region ?_
  refine At.quiet (q_loadS t24 rfl (RdS.blk (.head _) (m := 2) rfl) rfl) rfl ?_
  refine At.skim 1 rfl rfl ?_
  refine At.call en80 rfl (leaf80 _ _) (fun _ h => ⟨h.2.2.1, h.2.2.2.1, trivial⟩) (List.Perm.refl _) rfl ?_
  rintro _ _ _ ⟨rfl, rfl, rfl⟩
  refine At.skim 1 rfl rfl ?_
  refine At.nil ?_
  refine At.then ?_
  refine At.cond rfl (fun hlf => ?_) (fun hlf => ?_)
  · skip
    refine At.seq ?_
    refine At.region ?_
    refine At.skim 2 rfl rfl ?_
    refine At.nil ?_
    refine At.then ?_
    refine At.ret ?_
    refine At.thenRet ?_
    exact At.results (Γr := []) (M := []) rfl (RVals.cons (RVal.tmp rfl) (RVals.cons (RVal.tmp rfl) RVals.nil)) (.tail _ (.head _)) (fun _ _ => trivial) (.refl _) ⟨by rw [next_no (not_t hlf)]; rfl, rfl, rfl⟩
  · skip
    obtain ⟨s, i, n, hs, rfl, hn, hnr⟩ := leaf_yes (not_f hlf)
    have hil := lt_of_get hn
    have hnx := next_eq hs (not_f hlf)
    refine At.skip ?_
    refine At.then ?_
    refine At.seq ?_
    refine At.region ?_
    refine At.quiet (q_loadS t24 rfl (RdS.blk (.head _) (m := 2) rfl) rfl) rfl ?_
    refine At.skim 1 rfl rfl ?_
    refine At.call en81 rfl (path81 t s hs i hil) (fun _ h => ⟨h.2.2.1, h.2.2.2.1, trivial⟩) (List.Perm.refl _) rfl ?_
    rintro _ _ _ ⟨us, rs, u, b, rfl, rfl, rfl, hus, hrs, hW⟩
    refine At.loud (l_alloc t40) rfl ?_
    rintro _ _ _ ⟨b2, rfl, rfl, rfl⟩
    refine At.loudN (l_store t40 rfl rfl (i := 0) rfl rfl rfl rfl) ?_
    rintro _ _ _ ⟨rfl, rfl⟩
    refine At.nil ?_
    refine At.then ?_
    refine At.seq ?_
    refine At.seq ?_
    refine At.region ?_
    refine At.quiet (q_loadS t40 rfl (RdS.loc (i := 0) rfl (m := 3) rfl) rfl) rfl ?_
    refine At.call en27 rfl (top27 _) (fun _ _ => trivial) (List.Perm.refl _) rfl ?_
    rintro _ _ _ ⟨rfl, rfl, rfl⟩
    refine At.nil ?_
    refine At.then ?_
    refine At.cond rfl (fun htop => ?_) (fun htop => ?_)
    · skip
      have hu0 : u = [] := by
        have h := of_decide_eq_true htop
        rw [show us.l = toI u from hus] at h
        exact List.map_eq_nil_iff.1 h
      have e3 : s.nb i = none := by
        rcases way_nb hs hn hnr hW with ⟨_, _, e3⟩ | ⟨u2, b2, q, m, side, l, r, e, _⟩
        · exact e3
        · rw [hu0] at e; simp at e
      rw [e3] at hnx
      refine At.seq ?_
      refine At.region ?_
      refine At.skim 2 rfl rfl ?_
      refine At.nil ?_
      refine At.then ?_
      refine At.ret ?_
      refine At.thenRet ?_
      exact At.results (Γr := []) (M := []) rfl (RVals.cons (RVal.tmp rfl) (RVals.cons (RVal.tmp rfl) RVals.nil)) (.tail _ (.tail _ (.tail _ (.head _)))) (fun _ _ => trivial) (.cons _ (.refl _)) ⟨by rw [hnx]; rfl, rfl, rfl⟩
    · skip
      rcases way_nb hs hn hnr hW with ⟨e1, _, _⟩ | ⟨u2, b2, q, m, side, l, r, rfl, rfl, hm, hmr, he, hl, hr, hnb⟩
      · exact absurd (show us.l = [] by rw [hus, e1]; rfl) (of_decide_eq_false htop)
      obtain ⟨y, hy, hyp⟩ := p_get (u := t) rfl hm
      have hsd : rs.l.getLast?.getD false = side := by rw [hrs]; exact last_snoc _ _
      have hH : Hangs t.p.ns (if side then l else r) (if rs.l.getLast?.getD false then y.left else y.right) := by
        rw [hsd]
        have e1 : y.left = m.left := by rw [← hyp]; rfl
        have e2 : y.right = m.right := by rw [← hyp]; rfl
        cases side
        · simpa [e2] using hr
        · simpa [e1] using hl
      rw [hnb] at hnx
      refine At.skip ?_
      refine At.then ?_
      refine At.seq ?_
      refine At.draw 6 (.q 0 (.q 1 (.q 2 (.q 4 (.o 3 (.o 5 (.e))))))) _ (List.Sublist.refl _) mixed (by kernel_rfl) rfl ?_
      refine AtO.quiet rfl (q_loadS t24 rfl (RdS.blk (.tail _ (.tail _ (.head _))) (m := 2) rfl) rfl) rfl (Calm.then Post.calm) ?_
      refine AtO.quiet rfl (q_loadS t24 rfl (RdS.blk (.tail _ (.tail _ (.head _))) (m := 2) rfl) rfl) rfl (Calm.then Post.calm) ?_
      refine AtO.quiet rfl (q_loadS t40 rfl (RdS.loc (i := 0) rfl (m := 3) rfl) rfl) rfl (Calm.then Post.calm) ?_
      refine AtO.quiet rfl (q_loadS t40 rfl (RdS.loc (i := 0) rfl (m := 3) rfl) rfl) rfl (Calm.then Post.calm) ?_
      refine AtO.callA rfl en83 rfl (other83 t us rs (i : Int) q u2 y hus hy) (fun _ h => ⟨h.2.2.2.2.1, h.2.2.2.2.2.1, h.1, h.2.1, trivial⟩) (List.Perm.refl _) rfl (.refl _) ?_
      rintro _ _ _ ⟨rfl, rfl, rfl⟩
      refine AtO.callA rfl en32 rfl (right32 ⟨(i : Int), us, rs⟩) (fun _ h => ⟨h.2.1, trivial⟩) (List.Perm.refl _) rfl (.refl _) ?_
      rintro _ _ _ ⟨rfl, rfl, rfl⟩
      refine AtO.done ?_
      refine At.call en82 rfl (end82 t (if side then l else r) _ _ hH) (fun _ h => ⟨h.2.2.2.2.1, h.2.2.2.2.2.1, trivial⟩) (List.Perm.refl _) rfl ?_
      rintro _ _ _ ⟨rfl, rfl, rfl⟩
      refine At.skim 2 rfl rfl ?_
      refine At.nil ?_
      refine At.then ?_
      refine At.ret ?_
      exact At.results (Γr := []) (M := []) rfl (RVals.cons (RVal.tmp rfl) (RVals.cons (RVal.tmp rfl) RVals.nil)) (.tail _ (.tail _ (.tail _ (.head _)))) (fun _ _ => trivial) (.cons _ (.refl _)) ⟨end_next hnx hsd, rfl, rfl⟩
end Go.Proofs.Ytmkodknmknfdkaa
