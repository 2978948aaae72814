/- The walk of the plan. -/
import Derived.Test.YtmkodknmknfdkaaB5
import Derived.Test.YtmkodknmknfdkaaP6
set_option linter.unusedVariables false
set_option linter.unusedSimpArgs false
namespace Go.Proofs.Ytmkodknmknfdkaa
open E
set_option maxRecDepth 4000

theorem t109 : tRow Try.prog 109 = some (false, 5, 88, .agg #[.int .i64 0, .slice none 0 0, .slice none 0 0, .slice none 0 0, .bool false]) := by kernel_rfl
theorem s109 : sRow Try.prog 109 = some [(0, 2, false), (2, 1, true), (3, 1, true), (4, 1, true)] := by kernel_rfl
theorem en77 : Enters Try.prog 77 := Enters.mk' Try.func77 rfl rfl

theorem node77b (t : Tr) (b : Nat) (at_ : Int) (lv hv ov sv : Value) : Con Try.prog 77 [.pointer (some ⟨b, 0, none⟩), .int .i64 at_, lv, hv] [] [[(b, .cells #[.int .i64 t.root, t.ns.val, ov, sv, .bool true] 109 (0, 0))]] (fun v Γ M => v = .int .i64 0 ∧ Γ = [] ∧ M = [[(b, .cells #[.int .i64 t.root, t.ns.val, ov, sv, .bool true] 109 (0, 0))]]) := by
  refine Con.body 238 Try.func77 rfl Try.ntmps77 rfl fun X H₀ L₀ => ?_
  refine At.seq ?_
  refine At.region ?_
  refine At.skim 1 rfl rfl ?_
  refine At.nil ?_
  refine At.then ?_
  refine At.seq ?_
  refine At.seq ?_
  refine At.region ?_
  refine At.skim 2 rfl rfl ?_
  refine At.fld s109 t4 rfl rfl rfl (Rd.loc (i := 0) rfl rfl) rfl rfl ?_
  refine At.skim 23 rfl rfl ?_
  refine At.nil ?_
  refine At.then ?_
  refine At.condT rfl ?_
  refine At.seq ?_
  refine At.region ?_
  refine At.skim 2 rfl rfl ?_
  refine At.quiet (q_fieldAddr s109 rfl rfl rfl) rfl ?_
  refine At.loudN (l_store t4 rfl rfl (i := 0) rfl rfl rfl rfl) ?_
  rintro _ _ _ ⟨rfl, rfl⟩
  refine At.nil ?_
  refine At.then ?_
  refine At.seq ?_
  refine At.region ?_
  refine At.skim 1 rfl rfl ?_
  refine At.nil ?_
  refine At.then ?_
  refine At.ret ?_
  refine At.thenRet ?_
  exact At.results (Γr := []) (M := [[(b, .cells #[.int .i64 t.root, t.ns.val, ov, sv, .bool true] 109 (0, 0))]]) rfl (RVals.cons (RVal.tmp rfl) RVals.nil) (.head _) (fun _ _ => trivial) (.cons_cons _ (.refl _)) ⟨rfl, rfl, rfl⟩

set_option maxHeartbeats 1000000 in
theorem node77_step (t : Tr) (hsm : smallP t.ns.l) (f : Nat) (ih : Node77 t f) : Node77 t (f + 1) := by
  intro met at_ k lw hw b o a c Mo a2 c2 Ms hb hO hS hB hlo hhi
  refine Con.body 238 Try.func77 rfl Try.ntmps77 rfl fun X H₀ L₀ => ?_
  refine At.lenOf (hs := (.tail _ (.head _))) fun hlen => ?_
  rw [List.length_map] at hlen
  have hl1 := lo_len hlo
  have hl2 := hi_len hhi
  refine At.seq ?_
  refine At.region ?_
  refine At.skim 1 rfl rfl ?_
  refine At.nil ?_
  refine At.then ?_
  refine At.seq ?_
  refine At.seq ?_
  refine At.region ?_
  refine At.skim 2 rfl rfl ?_
  refine At.fld s109 t4 rfl rfl rfl (Rd.loc (i := 0) rfl rfl) rfl rfl ?_
  refine At.skim 5 rfl rfl ?_
  refine At.splitP (d := 23) rfl (fun hneg => ?_) (fun hneg => ?_)
  · skip
    refine At.skim 18 rfl rfl ?_
    refine At.nil ?_
    refine At.then ?_
    refine At.condT rfl ?_
    refine At.seq ?_
    refine At.region ?_
    refine At.skim 2 rfl rfl ?_
    refine At.quiet (q_fieldAddr s109 rfl rfl rfl) rfl ?_
    refine At.loudN (l_store t4 rfl rfl (i := 0) rfl rfl rfl rfl) ?_
    rintro _ _ _ ⟨rfl, rfl⟩
    refine At.nil ?_
    refine At.then ?_
    refine At.seq ?_
    refine At.region ?_
    refine At.skim 1 rfl rfl ?_
    refine At.nil ?_
    refine At.then ?_
    refine At.ret ?_
    refine At.thenRet ?_
    exact At.results (Γr := [psP o]) (M := [(planBox t b a o.length c a2 c2 true), Mo, Ms]) rfl (RVals.cons (RVal.tmp rfl) RVals.nil) (.head _) (fun _ h => ⟨h.2.2.2.2.2.1, trivial⟩) (.cons_cons _ (.cons_cons _ (.cons_cons _ (.refl _)))) (NodeEnd.no (sh_neg hneg) hO)
  · skip
    obtain ⟨i, rfl⟩ := Int.eq_ofNat_of_zero_le (show 0 ≤ at_ by omega)
    refine At.skim 3 rfl rfl ?_
    refine At.open rfl rfl ?_
    refine At.quiet (q_fieldAddr s109 rfl rfl rfl) rfl ?_
    refine At.open rfl rfl ?_
    refine At.quiet (q_fieldAddr s24 rfl rfl rfl) rfl ?_
    refine At.open rfl rfl ?_
    refine At.quiet (q_load t22 rfl (Rd.loc (i := 0) rfl rfl)) rfl ?_
    refine At.open rfl rfl ?_
    refine At.quiet (q_len Try.underlying22 rfl) rfl ?_
    refine At.skim 3 rfl rfl ?_
    refine At.splitP (d := 33) rfl (fun hout => ?_) (fun hout => ?_)
    · skip
      refine At.skim 8 rfl rfl ?_
      refine At.nil ?_
      refine At.then ?_
      refine At.condT rfl ?_
      refine At.seq ?_
      refine At.region ?_
      refine At.skim 2 rfl rfl ?_
      refine At.quiet (q_fieldAddr s109 rfl rfl rfl) rfl ?_
      refine At.loudN (l_store t4 rfl rfl (i := 0) rfl rfl rfl rfl) ?_
      rintro _ _ _ ⟨rfl, rfl⟩
      refine At.nil ?_
      refine At.then ?_
      refine At.seq ?_
      refine At.region ?_
      refine At.skim 1 rfl rfl ?_
      refine At.nil ?_
      refine At.then ?_
      refine At.ret ?_
      refine At.thenRet ?_
      exact At.results (Γr := [psP o]) (M := [(planBox t b a o.length c a2 c2 true), Mo, Ms]) rfl (RVals.cons (RVal.tmp rfl) RVals.nil) (.head _) (fun _ h => ⟨h.2.2.2.2.2.1, trivial⟩) (.cons_cons _ (.cons_cons _ (.cons_cons _ (.refl _)))) (NodeEnd.no (sh_out (by simp [Tr.p]; omega)) hO)
    · skip
      have hi : i < t.ns.l.length := by omega
      obtain ⟨x, hx⟩ := get_of_lt hi
      have hxp : t.p.ns[i]? = some x.p := map_get hx
      have hxg : t.p.ns.getD i default = x.p := by rw [List.getD_eq_getElem?_getD, hxp]; rfl
      refine At.skim 2 rfl rfl ?_
      refine At.open rfl rfl ?_
      refine At.quiet (q_fieldAddr s109 rfl rfl rfl) rfl ?_
      refine At.open rfl rfl ?_
      refine At.quiet (q_load t38 rfl (Rd.loc (i := 0) rfl rfl)) rfl ?_
      refine At.skim 1 rfl rfl ?_
      refine At.open rfl rfl ?_
      refine At.quiet (q_indexOwn Try.underlying38 t4 rfl hS (by simp [bits_length]) rfl rfl hi) rfl ?_
      refine At.open rfl rfl ?_
      refine At.quiet (q_load t4 rfl (Rd.own0 hS (i := 2) rfl (map_get (bits_get hi)) rfl)) rfl ?_
      refine At.skim 1 rfl rfl ?_
      refine At.nil ?_
      refine At.then ?_
      refine At.cond rfl (fun hmet => ?_) (fun hmet => ?_)
      · skip
        refine At.seq ?_
        refine At.region ?_
        refine At.skim 2 rfl rfl ?_
        refine At.quiet (q_fieldAddr s109 rfl rfl rfl) rfl ?_
        refine At.loudN (l_store t4 rfl rfl (i := 0) rfl rfl rfl rfl) ?_
        rintro _ _ _ ⟨rfl, rfl⟩
        refine At.nil ?_
        refine At.then ?_
        refine At.seq ?_
        refine At.region ?_
        refine At.skim 1 rfl rfl ?_
        refine At.nil ?_
        refine At.then ?_
        refine At.ret ?_
        refine At.thenRet ?_
        exact At.results (Γr := [psP o]) (M := [(planBox t b a o.length c a2 c2 true), Mo, Ms]) rfl (RVals.cons (RVal.tmp rfl) RVals.nil) (.head _) (fun _ h => ⟨h.2.2.2.2.2.1, trivial⟩) (.cons_cons _ (.cons_cons _ (.cons_cons _ (.refl _)))) (NodeEnd.no (sh_met hmet) hO)
      · skip
        have hcs := count_step hi hmet
        refine At.skip ?_
        refine At.then ?_
        refine At.seq ?_
        refine At.region ?_
        refine At.skim 2 rfl rfl ?_
        refine At.fld s109 t38 rfl rfl rfl (Rd.loc (i := 0) rfl rfl) rfl rfl ?_
        refine At.skim 1 rfl rfl ?_
        refine At.quiet (q_indexOwn Try.underlying38 t4 rfl hS (by simp [bits_length]) rfl rfl hi) rfl ?_
        refine At.loudN (l_storeOwn0 t4 rfl rfl hS (i := 2) rfl (map_get (bits_get hi)) rfl rfl rfl) ?_
        rintro _ _ _ ⟨Mow1, ow1, rfl, rfl⟩
        refine At.nil ?_
        refine At.then ?_
        refine At.seq ?_
        refine At.region ?_
        have hS2 : Own 4 1 ((bits t.ns.l.length (i :: met)).map rowB) a2 c2 Mow1 := by rw [← bits_row _ _ _ (met.contains i)]; exact ow1
        refine At.know (prsP x.ps) (fun _ h => psP_get h.2.2.1 hx) ?_
        refine At.skim 2 rfl rfl ?_
        refine At.quiet (q_fieldAddr s109 rfl rfl rfl) rfl ?_
        refine At.fld s24 t22 rfl rfl rfl (Rd.loc (i := 0) rfl rfl) rfl rfl ?_
        refine At.skim 1 rfl rfl ?_
        refine At.quiet (q_index Try.underlying22 t33 rfl (.tail _ (.tail _ (.head _))) (by simp) rfl rfl (lt_of_get hx)) rfl ?_
        refine At.quiet (q_loadS t33 rfl (RdS.sl0 (.tail _ (.tail _ (.head _))) (map_get hx)) rfl) rfl ?_
        refine At.loud (l_alloc t33) rfl ?_
        rintro _ _ _ ⟨b1, rfl, rfl, rfl⟩
        refine At.loudN (l_store t33 rfl rfl (i := 0) rfl rfl rfl rfl) ?_
        rintro _ _ _ ⟨rfl, rfl⟩
        refine At.nil ?_
        refine At.then ?_
        refine At.seq ?_
        refine At.region ?_
        refine At.skim 2 rfl rfl ?_
        refine At.fld s109 t22 rfl rfl rfl (Rd.loc (i := 1) rfl rfl) rfl rfl ?_
        refine At.quiet (q_len Try.underlying22 rfl) rfl ?_
        refine At.skim 1 rfl rfl ?_
        refine At.nil ?_
        refine At.then ?_
        refine At.seq ?_
        refine At.seq ?_
        refine At.region ?_
        refine At.fld s33 t4 rfl rfl rfl (Rd.loc (i := 0) rfl rfl) rfl rfl ?_
        refine At.skim 1 rfl rfl ?_
        refine At.nil ?_
        refine At.then ?_
        refine At.cond rfl (fun hleaf => ?_) (fun hleaf => ?_)
        · skip
          refine At.lenOf (hs := (.head _)) fun hlx => ?_
          rw [List.length_map] at hlx
          have hlf : x.p.route = false := not_t hleaf
          have hsh := sh_leaf (f := f) (k := k) hxp hmet hlf
          refine At.seq ?_
          refine At.region ?_
          refine At.skim 1 rfl rfl ?_
          refine At.fld s33 t3 rfl rfl rfl (Rd.loc (i := 0) rfl rfl) rfl rfl ?_
          refine At.cutOpsD (ι := Unit) .z 27 [70, 71, 72, 73, 74, 75, 76, 77, 78, 79, 80, 81, 82, 83, 84, 85, 86, 87, 88, 89, 90, 91, 92, 93, 94, 95, 96] (fun _ => [(96, .bool (badAt x.p k 0))]) (fun _ => []) (fun _ => []) (fun _ => True) rfl ?_ ?_
          · skip
            refine At.skim 2 rfl rfl ?_
            refine At.splitP (d := 71) rfl (fun h2 => ?_) (fun h2 => ?_)
            · skip
              refine At.skim 25 rfl rfl ?_
              refine At.nil ?_
              refine At.say 96 (.bool (badAt x.p k 0)) rfl (congrArg Value.bool (by rw [badAt_zero, Bool.eq_iff_iff]; cases hr : rises x.ps.l <;> simp_all [leafFields, Nd.p] <;> omega)) ?_
              refine At.then ?_
              exact At.meetK () trivial (Tells.meet 29 ⟨rfl, trivial⟩ rfl rfl) (fun _ h => h) (.refl _)
            · skip
              refine At.open rfl rfl ?_
              refine At.quiet (q_fieldAddr s33 rfl rfl rfl) rfl ?_
              refine At.open rfl rfl ?_
              refine At.quiet (q_load t3 rfl (Rd.loc (i := 0) rfl rfl)) rfl ?_
              refine At.skim 3 rfl rfl ?_
              refine At.splitP (d := 76) rfl (fun h3 => ?_) (fun h3 => ?_)
              · skip
                refine At.skim 20 rfl rfl ?_
                refine At.nil ?_
                refine At.say 96 (.bool (badAt x.p k 0)) rfl (congrArg Value.bool (by rw [badAt_zero, Bool.eq_iff_iff]; cases hr : rises x.ps.l <;> simp_all [leafFields, Nd.p] <;> omega)) ?_
                refine At.then ?_
                exact At.meetK () trivial (Tells.meet 30 ⟨rfl, trivial⟩ rfl rfl) (fun _ h => h) (.refl _)
              · skip
                refine At.open rfl rfl ?_
                refine At.quiet (q_fieldAddr s33 rfl rfl rfl) rfl ?_
                refine At.open rfl rfl ?_
                refine At.quiet (q_load t3 rfl (Rd.loc (i := 0) rfl rfl)) rfl ?_
                refine At.skim 3 rfl rfl ?_
                refine At.splitP (d := 81) rfl (fun h4 => ?_) (fun h4 => ?_)
                · skip
                  refine At.skim 15 rfl rfl ?_
                  refine At.nil ?_
                  refine At.say 96 (.bool (badAt x.p k 0)) rfl (congrArg Value.bool (by rw [badAt_zero, Bool.eq_iff_iff]; cases hr : rises x.ps.l <;> simp_all [leafFields, Nd.p] <;> omega)) ?_
                  refine At.then ?_
                  exact At.meetK () trivial (Tells.meet 31 ⟨rfl, trivial⟩ rfl rfl) (fun _ h => h) (.refl _)
                · skip
                  refine At.open rfl rfl ?_
                  refine At.quiet (q_fieldAddr s33 rfl rfl rfl) rfl ?_
                  refine At.open rfl rfl ?_
                  refine At.quiet (q_load t31 rfl (Rd.loc (i := 0) rfl rfl)) rfl ?_
                  refine At.open rfl rfl ?_
                  refine At.call en30 rfl (may30 _) (fun _ h => ⟨h.1, trivial⟩) (List.Perm.refl _) rfl ?_
                  rintro _ _ _ ⟨rfl, rfl, rfl⟩
                  refine At.skim 3 rfl rfl ?_
                  refine At.split (d := 87) rfl (fun h5 => ?_) (fun h5 => ?_)
                  · skip
                    refine At.skim 9 rfl rfl ?_
                    refine At.nil ?_
                    refine At.say 96 (.bool (badAt x.p k 0)) rfl (congrArg Value.bool (by rw [badAt_zero, Bool.eq_iff_iff]; cases hr : rises x.ps.l <;> simp_all [leafFields, Nd.p] <;> omega)) ?_
                    refine At.then ?_
                    exact At.meetK () trivial (Tells.meet 32 ⟨rfl, trivial⟩ rfl rfl) (fun _ h => h) (.refl _)
                  · skip
                    refine At.open rfl rfl ?_
                    refine At.quiet (q_fieldAddr s33 rfl rfl rfl) rfl ?_
                    refine At.open rfl rfl ?_
                    refine At.quiet (q_load t3 rfl (Rd.loc (i := 0) rfl rfl)) rfl ?_
                    refine At.skim 3 rfl rfl ?_
                    refine At.splitP (d := 92) rfl (fun h6 => ?_) (fun h6 => ?_)
                    · skip
                      refine At.skim 4 rfl rfl ?_
                      refine At.nil ?_
                      refine At.say 96 (.bool (badAt x.p k 0)) rfl (congrArg Value.bool (by rw [badAt_zero, Bool.eq_iff_iff]; cases hr : rises x.ps.l <;> simp_all [leafFields, Nd.p] <;> omega)) ?_
                      refine At.then ?_
                      exact At.meetK () trivial (Tells.meet 33 ⟨rfl, trivial⟩ rfl rfl) (fun _ h => h) (.refl _)
                    · skip
                      refine At.open rfl rfl ?_
                      refine At.quiet (q_fieldAddr s33 rfl rfl rfl) rfl ?_
                      refine At.open rfl rfl ?_
                      refine At.quiet (q_load t3 rfl (Rd.loc (i := 0) rfl rfl)) rfl ?_
                      refine At.skim 2 rfl rfl ?_
                      refine At.nil ?_
                      refine At.say 96 (.bool (badAt x.p k 0)) rfl (congrArg Value.bool (by rw [badAt_zero, Bool.eq_iff_iff]; cases hr : rises x.ps.l <;> simp_all [leafFields, Nd.p] <;> omega)) ?_
                      refine At.then ?_
                      exact At.meetK () trivial (Tells.meet 33 ⟨rfl, trivial⟩ rfl rfl) (fun _ h => h) (.refl _)
          intro u hI
          obtain _ := u
          refine At.skim 1 rfl rfl ?_
          refine At.quiet (q_fieldAddr s109 rfl rfl rfl) rfl ?_
          refine At.loudN (l_store t4 rfl rfl (i := 1) rfl rfl rfl rfl) ?_
          rintro _ _ _ ⟨rfl, rfl⟩
          refine At.nil ?_
          refine At.then ?_
          refine At.seq ?_
          refine At.seq ?_
          refine At.region ?_
          refine At.fld s33 t31 rfl rfl rfl (Rd.loc (i := 0) rfl rfl) rfl rfl ?_
          refine At.quiet (q_len Try.underlying31 rfl) rfl ?_
          refine At.skim 1 rfl rfl ?_
          refine At.nil ?_
          refine At.then ?_
          refine At.block ?_
          refine At.front 1 rfl ?_
          refine At.loopK (ι := Nat) [12, 102, 103, 104, 105, 106, 107, 108, 109, 110, 111, 112, 113, 114, 115, 116, 117, 118, 119, 120, 121, 122, 123, 124, 125, 126, 127, 128, 129, 130, 131, 132, 133, 134, 135, 136, 137, 138, 139] (fun j => [(102, .int .i64 (j : Int))]) (fun j => []) (fun j => [(planBox t b a o.length c a2 c2 (badAt x.p k j))]) _ (fun j => j ≤ x.ps.l.length) (fun j => x.ps.l.length - j) 0 (Nat.zero_le _) ⟨rfl, trivial⟩ (fun _ _ => trivial) (.cons_cons _ (.refl _)) ?_
          intro j hj0
          refine At.seq ?_
          refine At.region ?_
          refine At.skim 1 rfl rfl ?_
          refine At.nil ?_
          refine At.then ?_
          refine At.seq ?_
          refine At.if rfl (fun hj => ?_) (fun hj => ?_)
          · skip
            obtain ⟨y, hy⟩ := get_of_lt (l := x.ps.l) (i := j) (by omega)
            have hj1 := lt_of_get hy
            have hbs := badAt_step (n := x.p) (k := k) hy
            refine At.skip ?_
            refine At.then ?_
            refine At.seq ?_
            refine At.block ?_
            refine At.seq ?_
            refine At.region ?_
            refine At.quiet (q_index Try.underlying31 t50 rfl (.head _) (by simp) rfl rfl (lt_of_get hy)) rfl ?_
            refine At.quiet (q_loadS t50 rfl (RdS.sl0 (.head _) (map_get hy)) rfl) rfl ?_
            refine At.loud (l_alloc t50) rfl ?_
            rintro _ _ _ ⟨b2, rfl, rfl, rfl⟩
            refine At.loudN (l_store t50 rfl rfl (i := 0) rfl rfl rfl rfl) ?_
            rintro _ _ _ ⟨rfl, rfl⟩
            refine At.nil ?_
            refine At.then ?_
            refine At.draw 31 (.q 0 (.q 1 (.q 2 (.q 3 (.q 4 (.q 5 (.q 6 (.q 7 (.q 8 (.q 9 (.q 10 (.q 11 (.q 12 (.q 13 (.q 14 (.q 15 (.q 16 (.q 17 (.q 18 (.q 19 (.q 20 (.q 21 (.q 22 (.q 23 (.q 24 (.q 25 (.q 26 (.q 27 (.q 28 (.q 29 (.q 30 (.e)))))))))))))))))))))))))))))))) _ (List.Sublist.refl _) mixed (by kernel_rfl) rfl ?_
            refine AtO.quiet rfl (q_move rfl) rfl (Calm.inBlock (Calm.then (Calm.then (Calm.inBlock (Calm.then (Calm.then Post.calm)))))) ?_
            refine AtO.quiet rfl (q_move rfl) rfl (Calm.inBlock (Calm.then (Calm.then (Calm.inBlock (Calm.then (Calm.then Post.calm)))))) ?_
            refine AtO.quiet rfl (q_nilCheck rfl) rfl (Calm.inBlock (Calm.then (Calm.then (Calm.inBlock (Calm.then (Calm.then Post.calm)))))) ?_
            refine AtO.quiet rfl (q_fieldAddr s109 rfl rfl rfl) rfl (Calm.inBlock (Calm.then (Calm.then (Calm.inBlock (Calm.then (Calm.then Post.calm)))))) ?_
            refine AtO.quiet rfl (q_load t4 rfl (Rd.loc (i := 1) rfl rfl)) rfl (Calm.inBlock (Calm.then (Calm.then (Calm.inBlock (Calm.then (Calm.then Post.calm)))))) ?_
            refine AtO.quiet rfl (q_move rfl) rfl (Calm.inBlock (Calm.then (Calm.then (Calm.inBlock (Calm.then (Calm.then Post.calm)))))) ?_
            refine AtO.split (d := 111) rfl (fun h7 => ?_) (fun h7 => ?_)
            · skip
              refine AtO.shut rfl rfl rfl rfl (Calm.inBlock (Calm.then (Calm.then (Calm.inBlock (Calm.then (Calm.then Post.calm)))))) ?_
              refine AtO.shut rfl rfl rfl rfl (Calm.inBlock (Calm.then (Calm.then (Calm.inBlock (Calm.then (Calm.then Post.calm)))))) ?_
              refine AtO.shut rfl rfl rfl rfl (Calm.inBlock (Calm.then (Calm.then (Calm.inBlock (Calm.then (Calm.then Post.calm)))))) ?_
              refine AtO.shut rfl rfl rfl rfl (Calm.inBlock (Calm.then (Calm.then (Calm.inBlock (Calm.then (Calm.then Post.calm)))))) ?_
              refine AtO.shutU rfl rfl rfl (Calm.inBlock (Calm.then (Calm.then (Calm.inBlock (Calm.then (Calm.then Post.calm)))))) ?_
              refine AtO.shutU rfl rfl rfl (Calm.inBlock (Calm.then (Calm.then (Calm.inBlock (Calm.then (Calm.then Post.calm)))))) ?_
              refine AtO.shutU rfl rfl rfl (Calm.inBlock (Calm.then (Calm.then (Calm.inBlock (Calm.then (Calm.then Post.calm)))))) ?_
              refine AtO.shutU rfl rfl rfl (Calm.inBlock (Calm.then (Calm.then (Calm.inBlock (Calm.then (Calm.then Post.calm)))))) ?_
              refine AtO.shutU rfl rfl rfl (Calm.inBlock (Calm.then (Calm.then (Calm.inBlock (Calm.then (Calm.then Post.calm)))))) ?_
              refine AtO.shutU rfl rfl rfl (Calm.inBlock (Calm.then (Calm.then (Calm.inBlock (Calm.then (Calm.then Post.calm)))))) ?_
              refine AtO.shut rfl rfl rfl rfl (Calm.inBlock (Calm.then (Calm.then (Calm.inBlock (Calm.then (Calm.then Post.calm)))))) ?_
              refine AtO.quiet rfl (q_pickT rfl rfl) rfl (Calm.inBlock (Calm.then (Calm.then (Calm.inBlock (Calm.then (Calm.then Post.calm)))))) ?_
              refine AtO.quiet rfl (q_move rfl) rfl (Calm.inBlock (Calm.then (Calm.then (Calm.inBlock (Calm.then (Calm.then Post.calm)))))) ?_
              refine AtO.shut rfl rfl rfl rfl (Calm.inBlock (Calm.then (Calm.then (Calm.inBlock (Calm.then (Calm.then Post.calm)))))) ?_
              refine AtO.shut rfl rfl rfl rfl (Calm.inBlock (Calm.then (Calm.then (Calm.inBlock (Calm.then (Calm.then Post.calm)))))) ?_
              refine AtO.shut rfl rfl rfl rfl (Calm.inBlock (Calm.then (Calm.then (Calm.inBlock (Calm.then (Calm.then Post.calm)))))) ?_
              refine AtO.shut rfl rfl rfl rfl (Calm.inBlock (Calm.then (Calm.then (Calm.inBlock (Calm.then (Calm.then Post.calm)))))) ?_
              refine AtO.shutU rfl rfl rfl (Calm.inBlock (Calm.then (Calm.then (Calm.inBlock (Calm.then (Calm.then Post.calm)))))) ?_
              refine AtO.shutU rfl rfl rfl (Calm.inBlock (Calm.then (Calm.then (Calm.inBlock (Calm.then (Calm.then Post.calm)))))) ?_
              refine AtO.shutU rfl rfl rfl (Calm.inBlock (Calm.then (Calm.then (Calm.inBlock (Calm.then (Calm.then Post.calm)))))) ?_
              refine AtO.shutU rfl rfl rfl (Calm.inBlock (Calm.then (Calm.then (Calm.inBlock (Calm.then (Calm.then Post.calm)))))) ?_
              refine AtO.shutU rfl rfl rfl (Calm.inBlock (Calm.then (Calm.then (Calm.inBlock (Calm.then (Calm.then Post.calm)))))) ?_
              refine AtO.shutU rfl rfl rfl (Calm.inBlock (Calm.then (Calm.then (Calm.inBlock (Calm.then (Calm.then Post.calm)))))) ?_
              refine AtO.shut rfl rfl rfl rfl (Calm.inBlock (Calm.then (Calm.then (Calm.inBlock (Calm.then (Calm.then Post.calm)))))) ?_
              refine AtO.quiet rfl (q_pickT rfl rfl) rfl (Calm.inBlock (Calm.then (Calm.then (Calm.inBlock (Calm.then (Calm.then Post.calm)))))) ?_
              refine AtO.done ?_
              refine At.skim 1 rfl rfl ?_
              refine At.quiet (q_fieldAddr s109 rfl rfl rfl) rfl ?_
              refine At.say 136 (.bool (badAt x.p k (j + 1))) rfl (congrArg Value.bool (by rw [hbs, lo_bad, hl1, hl2]; simp [hneg, hout, hmet, hleaf, hj, h7] <;> (try simp_all) <;> omega)) ?_
              refine At.loudN (l_store t4 rfl rfl (i := 1) rfl rfl rfl rfl) ?_
              rintro _ _ _ ⟨rfl, rfl⟩
              refine At.nil ?_
              refine At.inNormal ?_
              refine At.then ?_
              refine At.region ?_
              refine At.quiet (q_add rfl rfl (by omega) (by omega)) rfl ?_
              refine At.skim 1 rfl rfl ?_
              refine At.nil ?_
              refine At.front 1 rfl ?_
              refine At.then ?_
              exact At.againK (j + 1) hj1 (by (try dsimp only); omega) (Tells.end 42 ⟨rfl, trivial⟩ rfl rfl) (fun _ h => h) (.cons_cons _ (.cons _ (.refl _)))
            · skip
              refine AtO.quietG rfl rfl rfl (q_move rfl) rfl (Calm.inBlock (Calm.then (Calm.then (Calm.inBlock (Calm.then (Calm.then Post.calm)))))) ?_
              refine AtO.quietG rfl rfl rfl (q_len Try.underlying37 rfl) rfl (Calm.inBlock (Calm.then (Calm.then (Calm.inBlock (Calm.then (Calm.then Post.calm)))))) ?_
              refine AtO.quietG rfl rfl rfl (q_gtr rfl rfl) rfl (Calm.inBlock (Calm.then (Calm.then (Calm.inBlock (Calm.then (Calm.then Post.calm)))))) ?_
              refine AtO.quietG rfl rfl rfl (q_move rfl) rfl (Calm.inBlock (Calm.then (Calm.then (Calm.inBlock (Calm.then (Calm.then Post.calm)))))) ?_
              refine AtO.splitP (d := 115) rfl (fun h8 => ?_) (fun h8 => ?_)
              · skip
                refine AtO.quietG rfl rfl rfl (q_fieldAddr s50 rfl rfl rfl) rfl (Calm.inBlock (Calm.then (Calm.then (Calm.inBlock (Calm.then (Calm.then Post.calm)))))) ?_
                refine AtO.quietG rfl rfl rfl (q_load t3 rfl (Rd.loc (i := 0) rfl rfl)) rfl (Calm.inBlock (Calm.then (Calm.then (Calm.inBlock (Calm.then (Calm.then Post.calm)))))) ?_
                refine AtO.quietG rfl rfl rfl (q_move rfl) rfl (Calm.inBlock (Calm.then (Calm.then (Calm.inBlock (Calm.then (Calm.then Post.calm)))))) ?_
                refine AtO.quietG rfl rfl rfl (q_index Try.underlying37 t3 rfl (.tail _ (.tail _ (.tail _ (.tail _ (.head _))))) (by simp) rfl rfl (lt_of_get (lo_get hlo (by assumption)))) rfl (Calm.inBlock (Calm.then (Calm.then (Calm.inBlock (Calm.then (Calm.then Post.calm)))))) ?_
                refine AtO.quietG rfl rfl rfl (q_load t3 rfl (Rd.sl0 (.tail _ (.tail _ (.tail _ (.tail _ (.head _))))) (map_get (lo_get hlo (by assumption))) rfl)) rfl (Calm.inBlock (Calm.then (Calm.then (Calm.inBlock (Calm.then (Calm.then Post.calm)))))) ?_
                refine AtO.quietG rfl rfl rfl (q_lss rfl rfl) rfl (Calm.inBlock (Calm.then (Calm.then (Calm.inBlock (Calm.then (Calm.then Post.calm)))))) ?_
                refine AtO.quietG rfl rfl rfl (q_pickT rfl rfl) rfl (Calm.inBlock (Calm.then (Calm.then (Calm.inBlock (Calm.then (Calm.then Post.calm)))))) ?_
                refine AtO.quiet rfl (q_pickF rfl rfl) rfl (Calm.inBlock (Calm.then (Calm.then (Calm.inBlock (Calm.then (Calm.then Post.calm)))))) ?_
                refine AtO.quiet rfl (q_move rfl) rfl (Calm.inBlock (Calm.then (Calm.then (Calm.inBlock (Calm.then (Calm.then Post.calm)))))) ?_
                refine AtO.splitP (d := 124) rfl (fun h9 => ?_) (fun h9 => ?_)
                · skip
                  refine AtO.shut rfl rfl rfl rfl (Calm.inBlock (Calm.then (Calm.then (Calm.inBlock (Calm.then (Calm.then Post.calm)))))) ?_
                  refine AtO.shut rfl rfl rfl rfl (Calm.inBlock (Calm.then (Calm.then (Calm.inBlock (Calm.then (Calm.then Post.calm)))))) ?_
                  refine AtO.shut rfl rfl rfl rfl (Calm.inBlock (Calm.then (Calm.then (Calm.inBlock (Calm.then (Calm.then Post.calm)))))) ?_
                  refine AtO.shut rfl rfl rfl rfl (Calm.inBlock (Calm.then (Calm.then (Calm.inBlock (Calm.then (Calm.then Post.calm)))))) ?_
                  refine AtO.shutU rfl rfl rfl (Calm.inBlock (Calm.then (Calm.then (Calm.inBlock (Calm.then (Calm.then Post.calm)))))) ?_
                  refine AtO.shutU rfl rfl rfl (Calm.inBlock (Calm.then (Calm.then (Calm.inBlock (Calm.then (Calm.then Post.calm)))))) ?_
                  refine AtO.shutU rfl rfl rfl (Calm.inBlock (Calm.then (Calm.then (Calm.inBlock (Calm.then (Calm.then Post.calm)))))) ?_
                  refine AtO.shutU rfl rfl rfl (Calm.inBlock (Calm.then (Calm.then (Calm.inBlock (Calm.then (Calm.then Post.calm)))))) ?_
                  refine AtO.shutU rfl rfl rfl (Calm.inBlock (Calm.then (Calm.then (Calm.inBlock (Calm.then (Calm.then Post.calm)))))) ?_
                  refine AtO.shutU rfl rfl rfl (Calm.inBlock (Calm.then (Calm.then (Calm.inBlock (Calm.then (Calm.then Post.calm)))))) ?_
                  refine AtO.shut rfl rfl rfl rfl (Calm.inBlock (Calm.then (Calm.then (Calm.inBlock (Calm.then (Calm.then Post.calm)))))) ?_
                  refine AtO.quiet rfl (q_pickT rfl rfl) rfl (Calm.inBlock (Calm.then (Calm.then (Calm.inBlock (Calm.then (Calm.then Post.calm)))))) ?_
                  refine AtO.done ?_
                  refine At.skim 1 rfl rfl ?_
                  refine At.quiet (q_fieldAddr s109 rfl rfl rfl) rfl ?_
                  refine At.say 136 (.bool (badAt x.p k (j + 1))) rfl (congrArg Value.bool (by rw [hbs, lo_bad, hl1, hl2]; simp [hneg, hout, hmet, hleaf, hj, h7, h8, h9] <;> (try simp_all) <;> omega)) ?_
                  refine At.loudN (l_store t4 rfl rfl (i := 1) rfl rfl rfl rfl) ?_
                  rintro _ _ _ ⟨rfl, rfl⟩
                  refine At.nil ?_
                  refine At.inNormal ?_
                  refine At.then ?_
                  refine At.region ?_
                  refine At.quiet (q_add rfl rfl (by omega) (by omega)) rfl ?_
                  refine At.skim 1 rfl rfl ?_
                  refine At.nil ?_
                  refine At.front 1 rfl ?_
                  refine At.then ?_
                  exact At.againK (j + 1) hj1 (by (try dsimp only); omega) (Tells.end 44 ⟨rfl, trivial⟩ rfl rfl) (fun _ h => h) (.cons_cons _ (.cons _ (.refl _)))
                · skip
                  refine AtO.quietG rfl rfl rfl (q_move rfl) rfl (Calm.inBlock (Calm.then (Calm.then (Calm.inBlock (Calm.then (Calm.then Post.calm)))))) ?_
                  refine AtO.quietG rfl rfl rfl (q_len Try.underlying37 rfl) rfl (Calm.inBlock (Calm.then (Calm.then (Calm.inBlock (Calm.then (Calm.then Post.calm)))))) ?_
                  refine AtO.quietG rfl rfl rfl (q_gtr rfl rfl) rfl (Calm.inBlock (Calm.then (Calm.then (Calm.inBlock (Calm.then (Calm.then Post.calm)))))) ?_
                  refine AtO.quietG rfl rfl rfl (q_move rfl) rfl (Calm.inBlock (Calm.then (Calm.then (Calm.inBlock (Calm.then (Calm.then Post.calm)))))) ?_
                  refine AtO.splitP (d := 128) rfl (fun h10 => ?_) (fun h10 => ?_)
                  · skip
                    refine AtO.quietG rfl rfl rfl (q_fieldAddr s50 rfl rfl rfl) rfl (Calm.inBlock (Calm.then (Calm.then (Calm.inBlock (Calm.then (Calm.then Post.calm)))))) ?_
                    refine AtO.quietG rfl rfl rfl (q_load t3 rfl (Rd.loc (i := 0) rfl rfl)) rfl (Calm.inBlock (Calm.then (Calm.then (Calm.inBlock (Calm.then (Calm.then Post.calm)))))) ?_
                    refine AtO.quietG rfl rfl rfl (q_move rfl) rfl (Calm.inBlock (Calm.then (Calm.then (Calm.inBlock (Calm.then (Calm.then Post.calm)))))) ?_
                    refine AtO.quietG rfl rfl rfl (q_index Try.underlying37 t3 rfl (.tail _ (.tail _ (.tail _ (.tail _ (.tail _ (.head _)))))) (by simp) rfl rfl (lt_of_get (hi_get hhi (by assumption)))) rfl (Calm.inBlock (Calm.then (Calm.then (Calm.inBlock (Calm.then (Calm.then Post.calm)))))) ?_
                    refine AtO.quietG rfl rfl rfl (q_load t3 rfl (Rd.sl0 (.tail _ (.tail _ (.tail _ (.tail _ (.tail _ (.head _)))))) (map_get (hi_get hhi (by assumption))) rfl)) rfl (Calm.inBlock (Calm.then (Calm.then (Calm.inBlock (Calm.then (Calm.then Post.calm)))))) ?_
                    refine AtO.quietG rfl rfl rfl (q_geq rfl rfl) rfl (Calm.inBlock (Calm.then (Calm.then (Calm.inBlock (Calm.then (Calm.then Post.calm)))))) ?_
                    refine AtO.quietG rfl rfl rfl (q_pickT rfl rfl) rfl (Calm.inBlock (Calm.then (Calm.then (Calm.inBlock (Calm.then (Calm.then Post.calm)))))) ?_
                    refine AtO.quiet rfl (q_pickF rfl rfl) rfl (Calm.inBlock (Calm.then (Calm.then (Calm.inBlock (Calm.then (Calm.then Post.calm)))))) ?_
                    refine AtO.done ?_
                    refine At.skim 1 rfl rfl ?_
                    refine At.quiet (q_fieldAddr s109 rfl rfl rfl) rfl ?_
                    refine At.say 136 (.bool (badAt x.p k (j + 1))) rfl (congrArg Value.bool (by rw [hbs, lo_bad, hl1, hl2]; simp [hneg, hout, hmet, hleaf, hj, h7, h8, h9, h10] <;> (try simp_all) <;> omega)) ?_
                    refine At.loudN (l_store t4 rfl rfl (i := 1) rfl rfl rfl rfl) ?_
                    rintro _ _ _ ⟨rfl, rfl⟩
                    refine At.nil ?_
                    refine At.inNormal ?_
                    refine At.then ?_
                    refine At.region ?_
                    refine At.quiet (q_add rfl rfl (by omega) (by omega)) rfl ?_
                    refine At.skim 1 rfl rfl ?_
                    refine At.nil ?_
                    refine At.front 1 rfl ?_
                    refine At.then ?_
                    exact At.againK (j + 1) hj1 (by (try dsimp only); omega) (Tells.end 45 ⟨rfl, trivial⟩ rfl rfl) (fun _ h => h) (.cons_cons _ (.cons _ (.refl _)))
                  · skip
                    refine AtO.shut rfl rfl rfl rfl (Calm.inBlock (Calm.then (Calm.then (Calm.inBlock (Calm.then (Calm.then Post.calm)))))) ?_
                    refine AtO.shut rfl rfl rfl rfl (Calm.inBlock (Calm.then (Calm.then (Calm.inBlock (Calm.then (Calm.then Post.calm)))))) ?_
                    refine AtO.shut rfl rfl rfl rfl (Calm.inBlock (Calm.then (Calm.then (Calm.inBlock (Calm.then (Calm.then Post.calm)))))) ?_
                    refine AtO.shut rfl rfl rfl rfl (Calm.inBlock (Calm.then (Calm.then (Calm.inBlock (Calm.then (Calm.then Post.calm)))))) ?_
                    refine AtO.shut rfl rfl rfl rfl (Calm.inBlock (Calm.then (Calm.then (Calm.inBlock (Calm.then (Calm.then Post.calm)))))) ?_
                    refine AtO.shut rfl rfl rfl rfl (Calm.inBlock (Calm.then (Calm.then (Calm.inBlock (Calm.then (Calm.then Post.calm)))))) ?_
                    refine AtO.quietG rfl rfl rfl (q_pickF rfl rfl) rfl (Calm.inBlock (Calm.then (Calm.then (Calm.inBlock (Calm.then (Calm.then Post.calm)))))) ?_
                    refine AtO.quiet rfl (q_pickF rfl rfl) rfl (Calm.inBlock (Calm.then (Calm.then (Calm.inBlock (Calm.then (Calm.then Post.calm)))))) ?_
                    refine AtO.done ?_
                    refine At.skim 1 rfl rfl ?_
                    refine At.quiet (q_fieldAddr s109 rfl rfl rfl) rfl ?_
                    refine At.say 136 (.bool (badAt x.p k (j + 1))) rfl (congrArg Value.bool (by rw [hbs, lo_bad, hl1, hl2]; simp [hneg, hout, hmet, hleaf, hj, h7, h8, h9, h10] <;> (try simp_all) <;> omega)) ?_
                    refine At.loudN (l_store t4 rfl rfl (i := 1) rfl rfl rfl rfl) ?_
                    rintro _ _ _ ⟨rfl, rfl⟩
                    refine At.nil ?_
                    refine At.inNormal ?_
                    refine At.then ?_
                    refine At.region ?_
                    refine At.quiet (q_add rfl rfl (by omega) (by omega)) rfl ?_
                    refine At.skim 1 rfl rfl ?_
                    refine At.nil ?_
                    refine At.front 1 rfl ?_
                    refine At.then ?_
                    exact At.againK (j + 1) hj1 (by (try dsimp only); omega) (Tells.end 45 ⟨rfl, trivial⟩ rfl rfl) (fun _ h => h) (.cons_cons _ (.cons _ (.refl _)))
              · skip
                refine AtO.shut rfl rfl rfl rfl (Calm.inBlock (Calm.then (Calm.then (Calm.inBlock (Calm.then (Calm.then Post.calm)))))) ?_
                refine AtO.shut rfl rfl rfl rfl (Calm.inBlock (Calm.then (Calm.then (Calm.inBlock (Calm.then (Calm.then Post.calm)))))) ?_
                refine AtO.shut rfl rfl rfl rfl (Calm.inBlock (Calm.then (Calm.then (Calm.inBlock (Calm.then (Calm.then Post.calm)))))) ?_
                refine AtO.shut rfl rfl rfl rfl (Calm.inBlock (Calm.then (Calm.then (Calm.inBlock (Calm.then (Calm.then Post.calm)))))) ?_
                refine AtO.shut rfl rfl rfl rfl (Calm.inBlock (Calm.then (Calm.then (Calm.inBlock (Calm.then (Calm.then Post.calm)))))) ?_
                refine AtO.shut rfl rfl rfl rfl (Calm.inBlock (Calm.then (Calm.then (Calm.inBlock (Calm.then (Calm.then Post.calm)))))) ?_
                refine AtO.quietG rfl rfl rfl (q_pickF rfl rfl) rfl (Calm.inBlock (Calm.then (Calm.then (Calm.inBlock (Calm.then (Calm.then Post.calm)))))) ?_
                refine AtO.quiet rfl (q_pickF rfl rfl) rfl (Calm.inBlock (Calm.then (Calm.then (Calm.inBlock (Calm.then (Calm.then Post.calm)))))) ?_
                refine AtO.quiet rfl (q_move rfl) rfl (Calm.inBlock (Calm.then (Calm.then (Calm.inBlock (Calm.then (Calm.then Post.calm)))))) ?_
                refine AtO.quietG rfl rfl rfl (q_move rfl) rfl (Calm.inBlock (Calm.then (Calm.then (Calm.inBlock (Calm.then (Calm.then Post.calm)))))) ?_
                refine AtO.quietG rfl rfl rfl (q_len Try.underlying37 rfl) rfl (Calm.inBlock (Calm.then (Calm.then (Calm.inBlock (Calm.then (Calm.then Post.calm)))))) ?_
                refine AtO.quietG rfl rfl rfl (q_gtr rfl rfl) rfl (Calm.inBlock (Calm.then (Calm.then (Calm.inBlock (Calm.then (Calm.then Post.calm)))))) ?_
                refine AtO.quietG rfl rfl rfl (q_move rfl) rfl (Calm.inBlock (Calm.then (Calm.then (Calm.inBlock (Calm.then (Calm.then Post.calm)))))) ?_
                refine AtO.splitP (d := 128) rfl (fun h11 => ?_) (fun h11 => ?_)
                · skip
                  refine AtO.quietG rfl rfl rfl (q_fieldAddr s50 rfl rfl rfl) rfl (Calm.inBlock (Calm.then (Calm.then (Calm.inBlock (Calm.then (Calm.then Post.calm)))))) ?_
                  refine AtO.quietG rfl rfl rfl (q_load t3 rfl (Rd.loc (i := 0) rfl rfl)) rfl (Calm.inBlock (Calm.then (Calm.then (Calm.inBlock (Calm.then (Calm.then Post.calm)))))) ?_
                  refine AtO.quietG rfl rfl rfl (q_move rfl) rfl (Calm.inBlock (Calm.then (Calm.then (Calm.inBlock (Calm.then (Calm.then Post.calm)))))) ?_
                  refine AtO.quietG rfl rfl rfl (q_index Try.underlying37 t3 rfl (.tail _ (.tail _ (.tail _ (.tail _ (.tail _ (.head _)))))) (by simp) rfl rfl (lt_of_get (hi_get hhi (by assumption)))) rfl (Calm.inBlock (Calm.then (Calm.then (Calm.inBlock (Calm.then (Calm.then Post.calm)))))) ?_
                  refine AtO.quietG rfl rfl rfl (q_load t3 rfl (Rd.sl0 (.tail _ (.tail _ (.tail _ (.tail _ (.tail _ (.head _)))))) (map_get (hi_get hhi (by assumption))) rfl)) rfl (Calm.inBlock (Calm.then (Calm.then (Calm.inBlock (Calm.then (Calm.then Post.calm)))))) ?_
                  refine AtO.quietG rfl rfl rfl (q_geq rfl rfl) rfl (Calm.inBlock (Calm.then (Calm.then (Calm.inBlock (Calm.then (Calm.then Post.calm)))))) ?_
                  refine AtO.quietG rfl rfl rfl (q_pickT rfl rfl) rfl (Calm.inBlock (Calm.then (Calm.then (Calm.inBlock (Calm.then (Calm.then Post.calm)))))) ?_
                  refine AtO.quiet rfl (q_pickF rfl rfl) rfl (Calm.inBlock (Calm.then (Calm.then (Calm.inBlock (Calm.then (Calm.then Post.calm)))))) ?_
                  refine AtO.done ?_
                  refine At.skim 1 rfl rfl ?_
                  refine At.quiet (q_fieldAddr s109 rfl rfl rfl) rfl ?_
                  refine At.say 136 (.bool (badAt x.p k (j + 1))) rfl (congrArg Value.bool (by rw [hbs, lo_bad, hl1, hl2]; simp [hneg, hout, hmet, hleaf, hj, h7, h8, h11] <;> (try simp_all) <;> omega)) ?_
                  refine At.loudN (l_store t4 rfl rfl (i := 1) rfl rfl rfl rfl) ?_
                  rintro _ _ _ ⟨rfl, rfl⟩
                  refine At.nil ?_
                  refine At.inNormal ?_
                  refine At.then ?_
                  refine At.region ?_
                  refine At.quiet (q_add rfl rfl (by omega) (by omega)) rfl ?_
                  refine At.skim 1 rfl rfl ?_
                  refine At.nil ?_
                  refine At.front 1 rfl ?_
                  refine At.then ?_
                  exact At.againK (j + 1) hj1 (by (try dsimp only); omega) (Tells.end 44 ⟨rfl, trivial⟩ rfl rfl) (fun _ h => h) (.cons_cons _ (.cons _ (.refl _)))
                · skip
                  refine AtO.shut rfl rfl rfl rfl (Calm.inBlock (Calm.then (Calm.then (Calm.inBlock (Calm.then (Calm.then Post.calm)))))) ?_
                  refine AtO.shut rfl rfl rfl rfl (Calm.inBlock (Calm.then (Calm.then (Calm.inBlock (Calm.then (Calm.then Post.calm)))))) ?_
                  refine AtO.shut rfl rfl rfl rfl (Calm.inBlock (Calm.then (Calm.then (Calm.inBlock (Calm.then (Calm.then Post.calm)))))) ?_
                  refine AtO.shut rfl rfl rfl rfl (Calm.inBlock (Calm.then (Calm.then (Calm.inBlock (Calm.then (Calm.then Post.calm)))))) ?_
                  refine AtO.shut rfl rfl rfl rfl (Calm.inBlock (Calm.then (Calm.then (Calm.inBlock (Calm.then (Calm.then Post.calm)))))) ?_
                  refine AtO.shut rfl rfl rfl rfl (Calm.inBlock (Calm.then (Calm.then (Calm.inBlock (Calm.then (Calm.then Post.calm)))))) ?_
                  refine AtO.quietG rfl rfl rfl (q_pickF rfl rfl) rfl (Calm.inBlock (Calm.then (Calm.then (Calm.inBlock (Calm.then (Calm.then Post.calm)))))) ?_
                  refine AtO.quiet rfl (q_pickF rfl rfl) rfl (Calm.inBlock (Calm.then (Calm.then (Calm.inBlock (Calm.then (Calm.then Post.calm)))))) ?_
                  refine AtO.done ?_
                  refine At.skim 1 rfl rfl ?_
                  refine At.quiet (q_fieldAddr s109 rfl rfl rfl) rfl ?_
                  refine At.say 136 (.bool (badAt x.p k (j + 1))) rfl (congrArg Value.bool (by rw [hbs, lo_bad, hl1, hl2]; simp [hneg, hout, hmet, hleaf, hj, h7, h8, h11] <;> (try simp_all) <;> omega)) ?_
                  refine At.loudN (l_store t4 rfl rfl (i := 1) rfl rfl rfl rfl) ?_
                  rintro _ _ _ ⟨rfl, rfl⟩
                  refine At.nil ?_
                  refine At.inNormal ?_
                  refine At.then ?_
                  refine At.region ?_
                  refine At.quiet (q_add rfl rfl (by omega) (by omega)) rfl ?_
                  refine At.skim 1 rfl rfl ?_
                  refine At.nil ?_
                  refine At.front 1 rfl ?_
                  refine At.then ?_
                  exact At.againK (j + 1) hj1 (by (try dsimp only); omega) (Tells.end 44 ⟨rfl, trivial⟩ rfl rfl) (fun _ h => h) (.cons_cons _ (.cons _ (.refl _)))
          · skip
            have hbe := badAt_end (n := x.p) (k := k) (j := j) (by show x.ps.l.length ≤ j; omega)
            have hxs := hsm x (List.mem_of_getElem? hx)
            refine At.exit ?_
            refine At.thenExit ?_
            refine At.thenExit ?_
            refine At.inHere rfl ?_
            refine At.then ?_
            refine At.seq ?_
            refine At.region ?_
            refine At.fld s33 t31 rfl rfl rfl (Rd.loc (i := 1) rfl rfl) rfl rfl ?_
            refine At.loud (l_appendNew rfl Try.underlying31 t50 rfl rfl (.head _) (by simp) rfl (by omega) (by unfold maxLen; omega) rfl) rfl ?_
            rintro _ _ _ ⟨a3, c3, rfl, rfl, rfl⟩
            refine At.quiet (q_fieldAddr s33 rfl rfl rfl) rfl ?_
            refine At.loudN (l_store t31 rfl rfl (i := 1) rfl rfl rfl rfl) ?_
            rintro _ _ _ ⟨rfl, rfl⟩
            refine At.nil ?_
            refine At.then ?_
            refine At.seq ?_
            refine At.draw 8 (.q 0 (.q 1 (.q 2 (.q 3 (.q 4 (.q 5 (.o 6 (.o 7 (.e))))))))) (_ :: _ :: L₀) (.cons_cons _ (.cons_cons _ (.cons _ (.cons _ (.refl _))))) mixed (by kernel_rfl) rfl ?_
            refine AtO.quiet rfl (q_move rfl) rfl (Calm.then (Calm.then Post.calm)) ?_
            refine AtO.quiet rfl (q_move rfl) rfl (Calm.then (Calm.then Post.calm)) ?_
            refine AtO.quiet rfl (q_nilCheck rfl) rfl (Calm.then (Calm.then Post.calm)) ?_
            refine AtO.quiet rfl (q_fieldAddr s109 rfl rfl rfl) rfl (Calm.then (Calm.then Post.calm)) ?_
            refine AtO.quiet rfl (q_load t22 rfl (Rd.loc (i := 0) rfl rfl)) rfl (Calm.then (Calm.then Post.calm)) ?_
            refine AtO.quiet rfl (q_loadS t33 rfl (RdS.loc (i := 1) rfl (m := 6) rfl) rfl) rfl (Calm.then (Calm.then Post.calm)) ?_
            refine AtO.loud rfl (l_buildSlice Try.underlying22 t33 rfl rfl rfl rfl rfl) rfl (by rintro _ _ _ ⟨_, rfl, rfl, rfl⟩; exact ⟨fun _ h => h, .cons _ (.cons_cons _ (.cons_cons _ (.cons _ (.cons _ (.refl _)))))⟩) ?_
            rintro _ _ _ ⟨b3, rfl, rfl, rfl⟩
            refine AtO.loudA rfl (l_append rfl Try.underlying22 t33 rfl rfl hO (by simp) (i := 3) rfl rfl (news := [rowN { x with ps := ⟨a3, c3, x.ps.l⟩ }]) (by simp [rowN]) (RdS.loc (i := 0) rfl (m := 6) rfl) rfl rfl rfl (by omega) (by unfold maxLen; omega)) rfl (by rintro _ _ _ ⟨_, _, _, rfl, _, rfl, rfl⟩; exact ⟨fun _ h => h, (.cons _ (.cons_cons _ (.cons_cons _ (.cons _ (.cons _ (.refl _))))))⟩) ?_
            rintro _ _ _ ⟨a4, c4, M4, rfl, ow4, rfl, rfl⟩
            refine AtO.done ?_
            refine At.skim 1 rfl rfl ?_
            refine At.quiet (q_fieldAddr s109 rfl rfl rfl) rfl ?_
            refine At.loudN (l_store t22 rfl rfl (i := 1) rfl rfl rfl rfl) ?_
            rintro _ _ _ ⟨rfl, rfl⟩
            refine At.nil ?_
            refine At.then ?_
            refine At.seq ?_
            refine At.region ?_
            refine At.know (psP (o ++ [{ x with ps := ⟨a3, c3, x.ps.l⟩ }])) (fun _ h => psP_snoc (n := { x with ps := ⟨a3, c3, x.ps.l⟩ }) h.2.2.2.2.2.2.2.1 h.1) ?_
            refine At.skim 2 rfl rfl ?_
            refine At.nil ?_
            refine At.then ?_
            refine At.ret ?_
            refine At.thenRet ?_
            exact At.results (Γr := [_]) (M := [planBox t b a4 (o.length + 1) c4 a2 c2 (badAt x.p k j), M4, _]) rfl (RVals.cons (RVal.tmp rfl) RVals.nil) (.tail _ (.tail _ (.tail _ (.head _)))) (fun _ h => ⟨h.1, trivial⟩) (.cons _ (.cons_cons _ (.cons _ (.cons_cons _ (.cons_cons _ (.refl _)))))) (NodeEnd.leaf hsh hbe (by simpa using ow4) rfl hxg hS2 hcs.1)
        · skip
          have hroute : x.p.route = true := not_f hleaf
          refine At.skip ?_
          refine At.then ?_
          refine At.seq ?_
          refine At.seq ?_
          refine At.draw 32 (.q 0 (.q 1 (.q 2 (.q 3 (.q 4 (.q 5 (.q 6 (.q 7 (.q 8 (.q 9 (.q 10 (.q 11 (.q 12 (.q 13 (.q 14 (.q 15 (.q 16 (.q 17 (.q 18 (.q 19 (.q 20 (.q 21 (.q 22 (.q 23 (.q 24 (.q 25 (.q 26 (.q 27 (.q 28 (.q 29 (.q 30 (.q 31 (.e))))))))))))))))))))))))))))))))) _ (List.Sublist.refl _) mixed (by kernel_rfl) rfl ?_
          refine AtO.quiet rfl (q_fieldAddr s33 rfl rfl rfl) rfl (Calm.then (Calm.then Post.calm)) ?_
          refine AtO.quiet rfl (q_load t31 rfl (Rd.loc (i := 0) rfl rfl)) rfl (Calm.then (Calm.then Post.calm)) ?_
          refine AtO.quiet rfl (q_len Try.underlying31 rfl) rfl (Calm.then (Calm.then Post.calm)) ?_
          refine AtO.quiet rfl (q_neq rfl rfl) rfl (Calm.then (Calm.then Post.calm)) ?_
          refine AtO.quiet rfl (q_move rfl) rfl (Calm.then (Calm.then Post.calm)) ?_
          refine AtO.splitP (d := 159) rfl (fun hp0 => ?_) (fun hp0 => ?_)
          · skip
            refine AtO.shut rfl rfl rfl rfl (Calm.then (Calm.then Post.calm)) ?_
            refine AtO.shut rfl rfl rfl rfl (Calm.then (Calm.then Post.calm)) ?_
            refine AtO.shut rfl rfl rfl rfl (Calm.then (Calm.then Post.calm)) ?_
            refine AtO.quiet rfl (q_pickT rfl rfl) rfl (Calm.then (Calm.then Post.calm)) ?_
            refine AtO.quiet rfl (q_move rfl) rfl (Calm.then (Calm.then Post.calm)) ?_
            refine AtO.shut rfl rfl rfl rfl (Calm.then (Calm.then Post.calm)) ?_
            refine AtO.shut rfl rfl rfl rfl (Calm.then (Calm.then Post.calm)) ?_
            refine AtO.shut rfl rfl rfl rfl (Calm.then (Calm.then Post.calm)) ?_
            refine AtO.shut rfl rfl rfl rfl (Calm.then (Calm.then Post.calm)) ?_
            refine AtO.shutU rfl rfl rfl (Calm.then (Calm.then Post.calm)) ?_
            refine AtO.shutU rfl rfl rfl (Calm.then (Calm.then Post.calm)) ?_
            refine AtO.shutU rfl rfl rfl (Calm.then (Calm.then Post.calm)) ?_
            refine AtO.shutU rfl rfl rfl (Calm.then (Calm.then Post.calm)) ?_
            refine AtO.shutU rfl rfl rfl (Calm.then (Calm.then Post.calm)) ?_
            refine AtO.shutU rfl rfl rfl (Calm.then (Calm.then Post.calm)) ?_
            refine AtO.shut rfl rfl rfl rfl (Calm.then (Calm.then Post.calm)) ?_
            refine AtO.quiet rfl (q_pickT rfl rfl) rfl (Calm.then (Calm.then Post.calm)) ?_
            refine AtO.quiet rfl (q_move rfl) rfl (Calm.then (Calm.then Post.calm)) ?_
            refine AtO.shut rfl rfl rfl rfl (Calm.then (Calm.then Post.calm)) ?_
            refine AtO.shut rfl rfl rfl rfl (Calm.then (Calm.then Post.calm)) ?_
            refine AtO.shut rfl rfl rfl rfl (Calm.then (Calm.then Post.calm)) ?_
            refine AtO.shut rfl rfl rfl rfl (Calm.then (Calm.then Post.calm)) ?_
            refine AtO.shutU rfl rfl rfl (Calm.then (Calm.then Post.calm)) ?_
            refine AtO.shutU rfl rfl rfl (Calm.then (Calm.then Post.calm)) ?_
            refine AtO.shutU rfl rfl rfl (Calm.then (Calm.then Post.calm)) ?_
            refine AtO.shutU rfl rfl rfl (Calm.then (Calm.then Post.calm)) ?_
            refine AtO.shutU rfl rfl rfl (Calm.then (Calm.then Post.calm)) ?_
            refine AtO.done ?_
            refine At.skim 3 rfl rfl ?_
            refine At.nil ?_
            refine At.then ?_
            refine At.condT rfl ?_
            refine At.seq ?_
            refine At.region ?_
            refine At.skim 2 rfl rfl ?_
            refine At.quiet (q_fieldAddr s109 rfl rfl rfl) rfl ?_
            refine At.loudN (l_store t4 rfl rfl (i := 1) rfl rfl rfl rfl) ?_
            rintro _ _ _ ⟨rfl, rfl⟩
            refine At.nil ?_
            refine At.then ?_
            refine At.seq ?_
            refine At.region ?_
            refine At.skim 1 rfl rfl ?_
            refine At.nil ?_
            refine At.then ?_
            refine At.ret ?_
            refine At.thenRet ?_
            exact At.results (Γr := [psP o]) (M := [(planBox t b a o.length c a2 c2 true), Mo, _]) rfl (RVals.cons (RVal.tmp rfl) RVals.nil) (.tail _ (.head _)) (fun _ h => ⟨h.2.2.2.2.2.2.1, trivial⟩) (.cons _ (.cons_cons _ (.cons_cons _ (.cons_cons _ (.refl _))))) (NodeEnd.no (sh_bad hxp hroute (rb1 (show x.ps.l.length ≠ 0 by omega))) hO)
          · skip
            refine AtO.quietG rfl rfl rfl (q_fieldAddr s33 rfl rfl rfl) rfl (Calm.then (Calm.then Post.calm)) ?_
            refine AtO.quietG rfl rfl rfl (q_load t3 rfl (Rd.loc (i := 0) rfl rfl)) rfl (Calm.then (Calm.then Post.calm)) ?_
            refine AtO.quietG rfl rfl rfl (q_neq rfl rfl) rfl (Calm.then (Calm.then Post.calm)) ?_
            refine AtO.quiet rfl (q_pickF rfl rfl) rfl (Calm.then (Calm.then Post.calm)) ?_
            refine AtO.quiet rfl (q_move rfl) rfl (Calm.then (Calm.then Post.calm)) ?_
            refine AtO.splitP (d := 164) rfl (fun hst => ?_) (fun hst => ?_)
            · skip
              refine AtO.shut rfl rfl rfl rfl (Calm.then (Calm.then Post.calm)) ?_
              refine AtO.shut rfl rfl rfl rfl (Calm.then (Calm.then Post.calm)) ?_
              refine AtO.shut rfl rfl rfl rfl (Calm.then (Calm.then Post.calm)) ?_
              refine AtO.shut rfl rfl rfl rfl (Calm.then (Calm.then Post.calm)) ?_
              refine AtO.shutU rfl rfl rfl (Calm.then (Calm.then Post.calm)) ?_
              refine AtO.shutU rfl rfl rfl (Calm.then (Calm.then Post.calm)) ?_
              refine AtO.shutU rfl rfl rfl (Calm.then (Calm.then Post.calm)) ?_
              refine AtO.shutU rfl rfl rfl (Calm.then (Calm.then Post.calm)) ?_
              refine AtO.shutU rfl rfl rfl (Calm.then (Calm.then Post.calm)) ?_
              refine AtO.shutU rfl rfl rfl (Calm.then (Calm.then Post.calm)) ?_
              refine AtO.shut rfl rfl rfl rfl (Calm.then (Calm.then Post.calm)) ?_
              refine AtO.quiet rfl (q_pickT rfl rfl) rfl (Calm.then (Calm.then Post.calm)) ?_
              refine AtO.quiet rfl (q_move rfl) rfl (Calm.then (Calm.then Post.calm)) ?_
              refine AtO.shut rfl rfl rfl rfl (Calm.then (Calm.then Post.calm)) ?_
              refine AtO.shut rfl rfl rfl rfl (Calm.then (Calm.then Post.calm)) ?_
              refine AtO.shut rfl rfl rfl rfl (Calm.then (Calm.then Post.calm)) ?_
              refine AtO.shut rfl rfl rfl rfl (Calm.then (Calm.then Post.calm)) ?_
              refine AtO.shutU rfl rfl rfl (Calm.then (Calm.then Post.calm)) ?_
              refine AtO.shutU rfl rfl rfl (Calm.then (Calm.then Post.calm)) ?_
              refine AtO.shutU rfl rfl rfl (Calm.then (Calm.then Post.calm)) ?_
              refine AtO.shutU rfl rfl rfl (Calm.then (Calm.then Post.calm)) ?_
              refine AtO.shutU rfl rfl rfl (Calm.then (Calm.then Post.calm)) ?_
              refine AtO.done ?_
              refine At.skim 3 rfl rfl ?_
              refine At.nil ?_
              refine At.then ?_
              refine At.condT rfl ?_
              refine At.seq ?_
              refine At.region ?_
              refine At.skim 2 rfl rfl ?_
              refine At.quiet (q_fieldAddr s109 rfl rfl rfl) rfl ?_
              refine At.loudN (l_store t4 rfl rfl (i := 1) rfl rfl rfl rfl) ?_
              rintro _ _ _ ⟨rfl, rfl⟩
              refine At.nil ?_
              refine At.then ?_
              refine At.seq ?_
              refine At.region ?_
              refine At.skim 1 rfl rfl ?_
              refine At.nil ?_
              refine At.then ?_
              refine At.ret ?_
              refine At.thenRet ?_
              exact At.results (Γr := [psP o]) (M := [(planBox t b a o.length c a2 c2 true), Mo, _]) rfl (RVals.cons (RVal.tmp rfl) RVals.nil) (.tail _ (.head _)) (fun _ h => ⟨h.2.2.2.2.2.2.1, trivial⟩) (.cons _ (.cons_cons _ (.cons_cons _ (.cons_cons _ (.refl _))))) (NodeEnd.no (sh_bad hxp hroute (rb2 hst)) hO)
            · skip
              refine AtO.quietG rfl rfl rfl (q_move rfl) rfl (Calm.then (Calm.then Post.calm)) ?_
              refine AtO.quietG rfl rfl rfl (q_len Try.underlying37 rfl) rfl (Calm.then (Calm.then Post.calm)) ?_
              refine AtO.quietG rfl rfl rfl (q_gtr rfl rfl) rfl (Calm.then (Calm.then Post.calm)) ?_
              refine AtO.quietG rfl rfl rfl (q_move rfl) rfl (Calm.then (Calm.then Post.calm)) ?_
              refine AtO.splitP (d := 168) rfl (fun hL => ?_) (fun hL => ?_)
              · skip
                refine AtO.quietG rfl rfl rfl (q_fieldAddr s33 rfl rfl rfl) rfl (Calm.then (Calm.then Post.calm)) ?_
                refine AtO.quietG rfl rfl rfl (q_load t3 rfl (Rd.loc (i := 0) rfl rfl)) rfl (Calm.then (Calm.then Post.calm)) ?_
                refine AtO.quietG rfl rfl rfl (q_move rfl) rfl (Calm.then (Calm.then Post.calm)) ?_
                refine AtO.quietG rfl rfl rfl (q_index Try.underlying37 t3 rfl (.tail _ (.tail _ (.tail _ (.tail _ (.head _))))) (by simp) rfl rfl (lt_of_get (lo_get hlo hL))) rfl (Calm.then (Calm.then Post.calm)) ?_
                refine AtO.quietG rfl rfl rfl (q_load t3 rfl (Rd.sl0 (.tail _ (.tail _ (.tail _ (.tail _ (.head _))))) (map_get (lo_get hlo hL)) rfl)) rfl (Calm.then (Calm.then Post.calm)) ?_
                refine AtO.quietG rfl rfl rfl (q_leq rfl rfl) rfl (Calm.then (Calm.then Post.calm)) ?_
                refine AtO.quietG rfl rfl rfl (q_pickT rfl rfl) rfl (Calm.then (Calm.then Post.calm)) ?_
                refine AtO.quiet rfl (q_pickF rfl rfl) rfl (Calm.then (Calm.then Post.calm)) ?_
                refine AtO.quiet rfl (q_move rfl) rfl (Calm.then (Calm.then Post.calm)) ?_
                refine AtO.splitP (d := 177) rfl (fun hk1 => ?_) (fun hk1 => ?_)
                · skip
                  refine AtO.shut rfl rfl rfl rfl (Calm.then (Calm.then Post.calm)) ?_
                  refine AtO.shut rfl rfl rfl rfl (Calm.then (Calm.then Post.calm)) ?_
                  refine AtO.shut rfl rfl rfl rfl (Calm.then (Calm.then Post.calm)) ?_
                  refine AtO.shut rfl rfl rfl rfl (Calm.then (Calm.then Post.calm)) ?_
                  refine AtO.shutU rfl rfl rfl (Calm.then (Calm.then Post.calm)) ?_
                  refine AtO.shutU rfl rfl rfl (Calm.then (Calm.then Post.calm)) ?_
                  refine AtO.shutU rfl rfl rfl (Calm.then (Calm.then Post.calm)) ?_
                  refine AtO.shutU rfl rfl rfl (Calm.then (Calm.then Post.calm)) ?_
                  refine AtO.shutU rfl rfl rfl (Calm.then (Calm.then Post.calm)) ?_
                  refine AtO.done ?_
                  refine At.skim 3 rfl rfl ?_
                  refine At.nil ?_
                  refine At.then ?_
                  refine At.condT rfl ?_
                  refine At.seq ?_
                  refine At.region ?_
                  refine At.skim 2 rfl rfl ?_
                  refine At.quiet (q_fieldAddr s109 rfl rfl rfl) rfl ?_
                  refine At.loudN (l_store t4 rfl rfl (i := 1) rfl rfl rfl rfl) ?_
                  rintro _ _ _ ⟨rfl, rfl⟩
                  refine At.nil ?_
                  refine At.then ?_
                  refine At.seq ?_
                  refine At.region ?_
                  refine At.skim 1 rfl rfl ?_
                  refine At.nil ?_
                  refine At.then ?_
                  refine At.ret ?_
                  refine At.thenRet ?_
                  exact At.results (Γr := [psP o]) (M := [(planBox t b a o.length c a2 c2 true), Mo, _]) rfl (RVals.cons (RVal.tmp rfl) RVals.nil) (.tail _ (.head _)) (fun _ h => ⟨h.2.2.2.2.2.2.1, trivial⟩) (.cons _ (.cons_cons _ (.cons_cons _ (.cons_cons _ (.refl _))))) (NodeEnd.no (sh_bad hxp hroute (rb3 (by rw [hl1, decide_eq_true hL]) hk1)) hO)
                · skip
                  refine AtO.quietG rfl rfl rfl (q_move rfl) rfl (Calm.then (Calm.then Post.calm)) ?_
                  refine AtO.quietG rfl rfl rfl (q_len Try.underlying37 rfl) rfl (Calm.then (Calm.then Post.calm)) ?_
                  refine AtO.quietG rfl rfl rfl (q_gtr rfl rfl) rfl (Calm.then (Calm.then Post.calm)) ?_
                  refine AtO.quietG rfl rfl rfl (q_move rfl) rfl (Calm.then (Calm.then Post.calm)) ?_
                  refine AtO.splitP (d := 181) rfl (fun hH => ?_) (fun hH => ?_)
                  · skip
                    refine AtO.quietG rfl rfl rfl (q_fieldAddr s33 rfl rfl rfl) rfl (Calm.then (Calm.then Post.calm)) ?_
                    refine AtO.quietG rfl rfl rfl (q_load t3 rfl (Rd.loc (i := 0) rfl rfl)) rfl (Calm.then (Calm.then Post.calm)) ?_
                    refine AtO.quietG rfl rfl rfl (q_move rfl) rfl (Calm.then (Calm.then Post.calm)) ?_
                    refine AtO.quietG rfl rfl rfl (q_index Try.underlying37 t3 rfl (.tail _ (.tail _ (.tail _ (.tail _ (.tail _ (.head _)))))) (by simp) rfl rfl (lt_of_get (hi_get hhi hH))) rfl (Calm.then (Calm.then Post.calm)) ?_
                    refine AtO.quietG rfl rfl rfl (q_load t3 rfl (Rd.sl0 (.tail _ (.tail _ (.tail _ (.tail _ (.tail _ (.head _)))))) (map_get (hi_get hhi hH)) rfl)) rfl (Calm.then (Calm.then Post.calm)) ?_
                    refine AtO.done ?_
                    refine At.skim 3 rfl rfl ?_
                    refine At.nil ?_
                    refine At.then ?_
                    refine At.if rfl (fun hk2 => ?_) (fun hk2 => ?_)
                    · skip
                      refine At.seq ?_
                      refine At.region ?_
                      refine At.skim 2 rfl rfl ?_
                      refine At.quiet (q_fieldAddr s109 rfl rfl rfl) rfl ?_
                      refine At.loudN (l_store t4 rfl rfl (i := 1) rfl rfl rfl rfl) ?_
                      rintro _ _ _ ⟨rfl, rfl⟩
                      refine At.nil ?_
                      refine At.then ?_
                      refine At.seq ?_
                      refine At.region ?_
                      refine At.skim 1 rfl rfl ?_
                      refine At.nil ?_
                      refine At.then ?_
                      refine At.ret ?_
                      refine At.thenRet ?_
                      exact At.results (Γr := [psP o]) (M := [(planBox t b a o.length c a2 c2 true), Mo, _]) rfl (RVals.cons (RVal.tmp rfl) RVals.nil) (.tail _ (.head _)) (fun _ h => ⟨h.2.2.2.2.2.2.1, trivial⟩) (.cons _ (.cons_cons _ (.cons_cons _ (.cons_cons _ (.refl _))))) (NodeEnd.no (sh_bad hxp hroute (rb4 (by rw [hl2, decide_eq_true hH]) hk2)) hO)
                    · skip
                      have hgood : routeOk x.p k = true := rgood (show x.ps.l.length = 0 by omega) (show x.stat = 0 by omega) (fun h => by rw [hl1] at h; have := of_decide_eq_true h; show k.least < x.key; omega) (fun h => by rw [hl2] at h; have := of_decide_eq_true h; show x.key < k.most; omega)
                      obtain ⟨hpl, hps⟩ := route_pure hgood
                      refine At.skip ?_
                      refine At.then ?_
                      refine At.seq ?_
                      refine At.draw 10 (.q 0 (.q 1 (.q 2 (.q 3 (.q 4 (.q 5 (.q 6 (.q 7 (.o 8 (.o 9 (.e))))))))))) (_ :: _ :: L₀) (.cons_cons _ (.cons_cons _ (.cons _ (.cons _ (.refl _))))) mixed (by kernel_rfl) rfl ?_
                      refine AtO.quiet rfl (q_move rfl) rfl (Calm.then Post.calm) ?_
                      refine AtO.quiet rfl (q_move rfl) rfl (Calm.then Post.calm) ?_
                      refine AtO.quiet rfl (q_nilCheck rfl) rfl (Calm.then Post.calm) ?_
                      refine AtO.quiet rfl (q_fieldAddr s109 rfl rfl rfl) rfl (Calm.then Post.calm) ?_
                      refine AtO.quiet rfl (q_load t22 rfl (Rd.loc (i := 1) rfl rfl)) rfl (Calm.then Post.calm) ?_
                      refine AtO.quiet rfl (q_fieldAddr s33 rfl rfl rfl) rfl (Calm.then Post.calm) ?_
                      refine AtO.quiet rfl (q_load t3 rfl (Rd.loc (i := 0) rfl rfl)) rfl (Calm.then Post.calm) ?_
                      refine AtO.quiet rfl (q_build t33 s33 rfl rfl) rfl (Calm.then Post.calm) ?_
                      refine AtO.loud rfl (l_buildSlice Try.underlying22 t33 rfl rfl rfl rfl rfl) rfl (by rintro _ _ _ ⟨_, rfl, rfl, rfl⟩; exact ⟨fun _ h => h, .cons _ (.cons_cons _ (.cons_cons _ (.cons _ (.cons _ (.refl _)))))⟩) ?_
                      rintro _ _ _ ⟨b4, rfl, rfl, rfl⟩
                      refine AtO.loudA rfl (l_append rfl Try.underlying22 t33 rfl rfl hO (by simp) (i := 3) rfl rfl (news := [rowN (⟨true, x.key, 0, 0, ⟨none, 0, []⟩, 0⟩ : Nd)]) (by simp [rowN]) (RdS.loc (i := 0) rfl (m := 6) rfl) rfl rfl rfl (by omega) (by unfold maxLen; omega)) rfl (by rintro _ _ _ ⟨_, _, _, rfl, _, rfl, rfl⟩; exact ⟨fun _ h => h, (.cons _ (.cons_cons _ (.cons_cons _ (.cons _ (.cons _ (.refl _))))))⟩) ?_
                      rintro _ _ _ ⟨a4, c4, M4, rfl, ow4, rfl, rfl⟩
                      refine AtO.done ?_
                      refine At.skim 1 rfl rfl ?_
                      refine At.quiet (q_fieldAddr s109 rfl rfl rfl) rfl ?_
                      refine At.say 202 (.slice a4 (o ++ [(⟨true, x.key, 0, 0, ⟨none, 0, []⟩, 0⟩ : Nd)]).length c4) rfl (by simp) ?_
                      refine At.loudN (l_store t22 rfl rfl (i := 2) rfl rfl rfl rfl) ?_
                      rintro _ _ _ ⟨rfl, rfl⟩
                      refine At.nil ?_
                      refine At.then ?_
                      refine At.seq ?_
                      refine At.region ?_
                      have hO4 : Own 33 6 ((o ++ [(⟨true, x.key, 0, 0, ⟨none, 0, []⟩, 0⟩ : Nd)]).map rowN) a4 c4 M4 := by simpa using ow4
                      refine At.know (prsP ⟨none, 0, []⟩) (fun _ h => sl_nil _ _ _ (Nat.zero_le _)) ?_
                      refine At.know (psP (o ++ [(⟨true, x.key, 0, 0, ⟨none, 0, []⟩, 0⟩ : Nd)])) (fun _ h => psP_snoc (n := (⟨true, x.key, 0, 0, ⟨none, 0, []⟩, 0⟩ : Nd)) h.2.2.2.2.2.2.2.1 h.1) ?_
                      refine At.skim 1 rfl rfl ?_
                      refine At.fld s33 t3 rfl rfl rfl (Rd.loc (i := 1) rfl rfl) rfl rfl ?_
                      refine At.skim 1 rfl rfl ?_
                      refine At.fld s33 t3 rfl rfl rfl (Rd.loc (i := 1) rfl rfl) rfl rfl ?_
                      refine At.loud (l_buildSlice Try.underlying37 t3 rfl rfl rfl rfl rfl) rfl ?_
                      rintro _ _ _ ⟨b5, rfl, rfl, rfl⟩
                      refine At.freeze 0 (φ := intsP ⟨some ⟨b5, 0, none⟩, 1, [x.key]⟩) rfl (fun _ h => sl_of_block h rfl (by simp [rowI]) rfl (show (1 : Nat) ≤ maxLen from by decide)) ?_
                      refine At.front 4 rfl ?_
                      refine At.front 4 rfl ?_
                      refine At.front 4 rfl ?_
                      refine At.call en77 rfl (ih (i :: met) x.left (k.lefts x.key) lw ⟨_, _, [x.key]⟩ b (o ++ [(⟨true, x.key, 0, 0, ⟨none, 0, []⟩, 0⟩ : Nd)]) a4 c4 M4 a2 c2 _ (by omega) hO4 hS2 (by simp; omega) hlo rfl) (fun _ h => ⟨h.2.2.2.2.2.1, h.2.2.2.2.2.2.1, h.2.2.2.2.2.2.2.1, h.1, h.2.1, trivial⟩) (List.Perm.refl _) rfl ?_
                      rintro _ _ _ ⟨q1, a5, c5, M5, M6, bad1, v1, rfl, rfl, rfl, hO5, hb5, hs5, hn5⟩
                      refine At.skim 1 rfl rfl ?_
                      refine At.nil ?_
                      refine At.then ?_
                      refine At.seq ?_
                      refine At.region ?_
                      rcases hsl : shape t.p.ns f (i :: met) x.left (k.lefts x.key) with _ | sl
                      · skip
                        have hb1 : bad1 = true := hn5 hsl
                        subst hb1
                        have hO6 : Own 33 6 ((o ++ (⟨true, x.key, 0, 0, ⟨none, 0, []⟩, 0⟩ : Nd) :: q1).map rowN) a5 c5 M5 := by simpa using hO5
                        have hno := sh_left hxp hroute hgood hsl
                        refine At.skim 1 rfl rfl ?_
                        refine At.fld s33 t3 rfl rfl rfl (Rd.loc (i := 4) rfl rfl) rfl rfl ?_
                        refine At.fld s33 t3 rfl rfl rfl (Rd.loc (i := 4) rfl rfl) rfl rfl ?_
                        refine At.loud (l_buildSlice Try.underlying37 t3 rfl rfl rfl rfl rfl) rfl ?_
                        rintro _ _ _ ⟨b6, rfl, rfl, rfl⟩
                        refine At.skim 1 rfl rfl ?_
                        refine At.front 1 rfl ?_
                        refine At.call en77 rfl (node77b t b x.right _ _ _ _) (fun _ _ => trivial) (List.Perm.refl _) rfl ?_
                        rintro _ _ _ ⟨rfl, rfl, rfl⟩
                        refine At.skim 1 rfl rfl ?_
                        refine At.nil ?_
                        refine At.then ?_
                        refine At.seq ?_
                        refine At.draw 15 (.q 0 (.q 1 (.q 2 (.q 3 (.q 4 (.q 5 (.q 6 (.q 7 (.q 8 (.q 9 (.q 10 (.q 11 (.q 12 (.q 13 (.o 14 (.e)))))))))))))))) (_ :: _ :: _ :: _ :: L₀) (.cons_cons _ (.cons_cons _ (.cons _ (.cons _ (.cons_cons _ (.cons_cons _ (.refl _))))))) mixed (by kernel_rfl) rfl ?_
                        refine AtO.quiet rfl (q_move rfl) rfl (Calm.then Post.calm) ?_
                        refine AtO.quiet rfl (q_nilCheck rfl) rfl (Calm.then Post.calm) ?_
                        refine AtO.quiet rfl (q_fieldAddr s109 rfl rfl rfl) rfl (Calm.then Post.calm) ?_
                        refine AtO.quiet rfl (q_load t22 rfl (Rd.loc (i := 0) rfl rfl)) rfl (Calm.then Post.calm) ?_
                        refine AtO.quiet rfl (q_move rfl) rfl (Calm.then Post.calm) ?_
                        refine AtO.quiet rfl (q_move rfl) rfl (Calm.then Post.calm) ?_
                        refine AtO.quiet rfl (q_nilCheck rfl) rfl (Calm.then Post.calm) ?_
                        refine AtO.quiet rfl (q_fieldAddr s109 rfl rfl rfl) rfl (Calm.then Post.calm) ?_
                        refine AtO.quiet rfl (q_load t22 rfl (Rd.loc (i := 0) rfl rfl)) rfl (Calm.then Post.calm) ?_
                        refine AtO.quiet rfl (q_move rfl) rfl (Calm.then Post.calm) ?_
                        refine AtO.quiet rfl (q_move rfl) rfl (Calm.then Post.calm) ?_
                        refine AtO.quiet rfl (q_move rfl) rfl (Calm.then Post.calm) ?_
                        refine AtO.quiet rfl (q_indexOwn Try.underlying22 t33 rfl hO6 (by simp) rfl rfl (by simp)) rfl (Calm.then Post.calm) ?_
                        refine AtO.quiet rfl (q_fieldAddr s33 rfl rfl rfl) rfl (Calm.then Post.calm) ?_
                        refine AtO.loudNA rfl (l_storeOwn t3 rfl rfl hO6 (i := 2) rfl (get_mid o q1 _) rfl rfl rfl) (by rintro _ _ _ ⟨_, _, rfl, rfl⟩; exact ⟨fun _ h => h, (.cons_cons _ (.cons_cons _ (.cons _ (.cons _ (.cons_cons _ (.cons_cons _ (.refl _)))))))⟩) ?_
                        rintro _ _ _ ⟨Mow12, ow12, rfl, rfl⟩
                        refine AtO.done ?_
                        refine At.quiet (q_indexOwn Try.underlying22 t33 rfl hO6 (by simp) rfl rfl (by simp)) rfl ?_
                        refine At.quiet (q_fieldAddr s33 rfl rfl rfl) rfl ?_
                        refine At.loudN (l_storeOwn t3 rfl rfl (show Own 33 6 ((o ++ (⟨true, x.key, v1, 0, ⟨none, 0, []⟩, 0⟩ : Nd) :: q1).map rowN) a5 c5 _ by rw [← set_mid o q1 (⟨true, x.key, 0, 0, ⟨none, 0, []⟩, 0⟩ : Nd)]; exact ow12) (i := 2) rfl (get_mid o q1 (⟨true, x.key, v1, 0, ⟨none, 0, []⟩, 0⟩ : Nd)) rfl rfl rfl) ?_
                        rintro _ _ _ ⟨Mow13, ow13, rfl, rfl⟩
                        refine At.nil ?_
                        refine At.then ?_
                        refine At.seq ?_
                        refine At.region ?_
                        have hO8 : Own 33 6 ((o ++ (⟨true, x.key, v1, 0, ⟨none, 0, []⟩, 0⟩ : Nd) :: q1).map rowN) a5 c5 Mow13 := by rw [← set_mid o q1 (⟨true, x.key, v1, 0, ⟨none, 0, []⟩, 0⟩ : Nd)]; exact ow13
                        refine At.know (psP (o ++ (⟨true, x.key, v1, 0, ⟨none, 0, []⟩, 0⟩ : Nd) :: q1)) (fun _ h => psP_mid (n := (⟨true, x.key, 0, 0, ⟨none, 0, []⟩, 0⟩ : Nd)) (m := (⟨true, x.key, v1, 0, ⟨none, 0, []⟩, 0⟩ : Nd)) (by simpa using h.1) h.2.2.2.1) ?_
                        refine At.skim 2 rfl rfl ?_
                        refine At.nil ?_
                        refine At.then ?_
                        refine At.ret ?_
                        exact At.results (Γr := [_]) (M := [planBox t b a5 ((o ++ [(⟨true, x.key, 0, 0, ⟨none, 0, []⟩, 0⟩ : Nd)]) ++ q1).length c5 a2 c2 true, _, _]) rfl (RVals.cons (RVal.tmp rfl) RVals.nil) (.tail _ (.tail _ (.tail _ (.tail _ (.tail _ (.tail _ (.head _))))))) (fun _ h => ⟨h.1, trivial⟩) (.cons_cons _ (.cons _ (.cons_cons _ (.cons_cons _ (.cons _ (.cons _ (.refl _))))))) (NodeEnd.left (q := (⟨true, x.key, v1, 0, ⟨none, 0, []⟩, 0⟩ : Nd) :: q1) hno hO8 (by simp) (by have := hcs.1; simp at hb5 ⊢; omega))
                      · skip
                        obtain ⟨rfl, rfl, hq1, hS5, hlen5⟩ := hs5 sl hsl
                        have hcm := count_more t.ns.l.length sl.places (i :: met)
                        have hc1 := hcs.1
                        refine At.skim 1 rfl rfl ?_
                        refine At.fld s33 t3 rfl rfl rfl (Rd.loc (i := 4) rfl rfl) rfl rfl ?_
                        refine At.fld s33 t3 rfl rfl rfl (Rd.loc (i := 4) rfl rfl) rfl rfl ?_
                        refine At.loud (l_buildSlice Try.underlying37 t3 rfl rfl rfl rfl rfl) rfl ?_
                        rintro _ _ _ ⟨b7, rfl, rfl, rfl⟩
                        refine At.skim 1 rfl rfl ?_
                        refine At.freeze 0 (φ := intsP ⟨some ⟨b7, 0, none⟩, 1, [x.key]⟩) rfl (fun _ h => sl_of_block h rfl (by simp [rowI]) rfl (show (1 : Nat) ≤ maxLen from by decide)) ?_
                        refine At.front 2 rfl ?_
                        refine At.front 2 rfl ?_
                        refine At.front 2 rfl ?_
                        refine At.call en77 rfl (ih (sl.places ++ i :: met) x.right (k.rights x.key) ⟨_, _, [x.key]⟩ hw b ((o ++ [(⟨true, x.key, 0, 0, ⟨none, 0, []⟩, 0⟩ : Nd)]) ++ q1) a5 c5 M5 a2 c2 M6 (by omega) hO5 hS5 (by have h1 := hlen5; simp only [List.length_append, List.length_singleton] at h1 ⊢; omega) rfl hhi) (fun _ h => ⟨h.2.2.2.2.2.2.2.1, h.2.2.2.2.2.2.2.2.1, h.1, h.2.2.2.2.2.2.2.2.2.2.1, h.2.1, trivial⟩) (List.Perm.refl _) rfl ?_
                        rintro _ _ _ ⟨q2, a6, c6, M7, M8, bad2, v2, rfl, rfl, rfl, hO9, hb9, hs9, hn9⟩
                        refine At.skim 1 rfl rfl ?_
                        refine At.nil ?_
                        refine At.then ?_
                        refine At.seq ?_
                        have hO6 : Own 33 6 ((o ++ (⟨true, x.key, 0, 0, ⟨none, 0, []⟩, 0⟩ : Nd) :: (q1 ++ q2)).map rowN) a6 c6 M7 := by simpa using hO9
                        refine At.draw 15 (.q 0 (.q 1 (.q 2 (.q 3 (.q 4 (.q 5 (.q 6 (.q 7 (.q 8 (.q 9 (.q 10 (.q 11 (.q 12 (.q 13 (.o 14 (.e)))))))))))))))) (_ :: _ :: _ :: L₀) (.cons_cons _ (.cons _ (.cons _ (.cons_cons _ (.cons_cons _ (.refl _)))))) mixed (by kernel_rfl) rfl ?_
                        refine AtO.quiet rfl (q_move rfl) rfl (Calm.then Post.calm) ?_
                        refine AtO.quiet rfl (q_nilCheck rfl) rfl (Calm.then Post.calm) ?_
                        refine AtO.quiet rfl (q_fieldAddr s109 rfl rfl rfl) rfl (Calm.then Post.calm) ?_
                        refine AtO.quiet rfl (q_load t22 rfl (Rd.loc (i := 0) rfl rfl)) rfl (Calm.then Post.calm) ?_
                        refine AtO.quiet rfl (q_move rfl) rfl (Calm.then Post.calm) ?_
                        refine AtO.quiet rfl (q_move rfl) rfl (Calm.then Post.calm) ?_
                        refine AtO.quiet rfl (q_nilCheck rfl) rfl (Calm.then Post.calm) ?_
                        refine AtO.quiet rfl (q_fieldAddr s109 rfl rfl rfl) rfl (Calm.then Post.calm) ?_
                        refine AtO.quiet rfl (q_load t22 rfl (Rd.loc (i := 0) rfl rfl)) rfl (Calm.then Post.calm) ?_
                        refine AtO.quiet rfl (q_move rfl) rfl (Calm.then Post.calm) ?_
                        refine AtO.quiet rfl (q_move rfl) rfl (Calm.then Post.calm) ?_
                        refine AtO.quiet rfl (q_move rfl) rfl (Calm.then Post.calm) ?_
                        refine AtO.quiet rfl (q_indexOwn Try.underlying22 t33 rfl hO6 (by simp) rfl rfl (by simp)) rfl (Calm.then Post.calm) ?_
                        refine AtO.quiet rfl (q_fieldAddr s33 rfl rfl rfl) rfl (Calm.then Post.calm) ?_
                        refine AtO.loudNA rfl (l_storeOwn t3 rfl rfl hO6 (i := 1) rfl (get_mid o (q1 ++ q2) _) rfl rfl rfl) (by rintro _ _ _ ⟨_, _, rfl, rfl⟩; exact ⟨fun _ h => h, (.cons_cons _ (.cons _ (.cons _ (.cons_cons _ (.cons_cons _ (.refl _))))))⟩) ?_
                        rintro _ _ _ ⟨Mow14, ow14, rfl, rfl⟩
                        refine AtO.done ?_
                        refine At.quiet (q_indexOwn Try.underlying22 t33 rfl hO6 (by simp) rfl rfl (by simp)) rfl ?_
                        refine At.quiet (q_fieldAddr s33 rfl rfl rfl) rfl ?_
                        refine At.loudN (l_storeOwn t3 rfl rfl (show Own 33 6 ((o ++ (⟨true, x.key, (((o ++ [(⟨true, x.key, 0, 0, ⟨none, 0, []⟩, 0⟩ : Nd)]).length : Nat) : Int), 0, ⟨none, 0, []⟩, 0⟩ : Nd) :: (q1 ++ q2)).map rowN) a6 c6 _ by rw [← set_mid o (q1 ++ q2) (⟨true, x.key, 0, 0, ⟨none, 0, []⟩, 0⟩ : Nd)]; exact ow14) (i := 1) rfl (get_mid o (q1 ++ q2) (⟨true, x.key, (((o ++ [(⟨true, x.key, 0, 0, ⟨none, 0, []⟩, 0⟩ : Nd)]).length : Nat) : Int), 0, ⟨none, 0, []⟩, 0⟩ : Nd)) rfl rfl rfl) ?_
                        rintro _ _ _ ⟨Mow15, ow15, rfl, rfl⟩
                        refine At.nil ?_
                        refine At.then ?_
                        refine At.seq ?_
                        refine At.region ?_
                        have hO8 : Own 33 6 ((o ++ (⟨true, x.key, (((o ++ [(⟨true, x.key, 0, 0, ⟨none, 0, []⟩, 0⟩ : Nd)]).length : Nat) : Int), v2, ⟨none, 0, []⟩, 0⟩ : Nd) :: (q1 ++ q2)).map rowN) a6 c6 Mow15 := by rw [← set_mid o (q1 ++ q2) (⟨true, x.key, (((o ++ [(⟨true, x.key, 0, 0, ⟨none, 0, []⟩, 0⟩ : Nd)]).length : Nat) : Int), 0, ⟨none, 0, []⟩, 0⟩ : Nd)]; exact ow15
                        refine At.know (psP (o ++ (⟨true, x.key, (((o ++ [(⟨true, x.key, 0, 0, ⟨none, 0, []⟩, 0⟩ : Nd)]).length : Nat) : Int), v2, ⟨none, 0, []⟩, 0⟩ : Nd) :: (q1 ++ q2))) (fun _ h => psP_mid (n := (⟨true, x.key, 0, 0, ⟨none, 0, []⟩, 0⟩ : Nd)) (m := (⟨true, x.key, (((o ++ [(⟨true, x.key, 0, 0, ⟨none, 0, []⟩, 0⟩ : Nd)]).length : Nat) : Int), v2, ⟨none, 0, []⟩, 0⟩ : Nd)) (by simpa using h.1) h.2.2.2.2.2.1) ?_
                        refine At.skim 2 rfl rfl ?_
                        refine At.nil ?_
                        refine At.then ?_
                        refine At.ret ?_
                        exact At.results (Γr := [_]) (M := [planBox t b a6 (((o ++ [(⟨true, x.key, 0, 0, ⟨none, 0, []⟩, 0⟩ : Nd)]) ++ q1) ++ q2).length c6 a2 c2 bad2, _, M8]) rfl (RVals.cons (RVal.tmp rfl) RVals.nil) (.tail _ (.tail _ (.tail _ (.tail _ (.tail _ (.tail _ (.tail _ (.tail _ (.head _))))))))) (fun _ h => ⟨h.1, trivial⟩) (.cons_cons _ (.cons_cons _ (.cons_cons _ (.cons _ (.cons _ (.refl _)))))) (NodeEnd.node (sh_right hxp hmet hroute hgood hsl) hxg hroute ⟨hpl, hps⟩ hq1 hO8 rfl hc1 hlen5 hb9 rfl hs9 hn9)
                  · skip
                    have hgood : routeOk x.p k = true := rgood (show x.ps.l.length = 0 by omega) (show x.stat = 0 by omega) (fun h => by rw [hl1] at h; have := of_decide_eq_true h; show k.least < x.key; omega) (fun h => by rw [hl2] at h; have := of_decide_eq_true h; show x.key < k.most; omega)
                    obtain ⟨hpl, hps⟩ := route_pure hgood
                    refine AtO.shut rfl rfl rfl rfl (Calm.then (Calm.then Post.calm)) ?_
                    refine AtO.shut rfl rfl rfl rfl (Calm.then (Calm.then Post.calm)) ?_
                    refine AtO.shut rfl rfl rfl rfl (Calm.then (Calm.then Post.calm)) ?_
                    refine AtO.shut rfl rfl rfl rfl (Calm.then (Calm.then Post.calm)) ?_
                    refine AtO.shut rfl rfl rfl rfl (Calm.then (Calm.then Post.calm)) ?_
                    refine AtO.done ?_
                    refine At.skim 3 rfl rfl ?_
                    refine At.nil ?_
                    refine At.then ?_
                    refine At.condF rfl ?_
                    refine At.skip ?_
                    refine At.then ?_
                    refine At.seq ?_
                    refine At.draw 10 (.q 0 (.q 1 (.q 2 (.q 3 (.q 4 (.q 5 (.q 6 (.q 7 (.o 8 (.o 9 (.e))))))))))) (_ :: _ :: L₀) (.cons_cons _ (.cons_cons _ (.cons _ (.cons _ (.refl _))))) mixed (by kernel_rfl) rfl ?_
                    refine AtO.quiet rfl (q_move rfl) rfl (Calm.then Post.calm) ?_
                    refine AtO.quiet rfl (q_move rfl) rfl (Calm.then Post.calm) ?_
                    refine AtO.quiet rfl (q_nilCheck rfl) rfl (Calm.then Post.calm) ?_
                    refine AtO.quiet rfl (q_fieldAddr s109 rfl rfl rfl) rfl (Calm.then Post.calm) ?_
                    refine AtO.quiet rfl (q_load t22 rfl (Rd.loc (i := 1) rfl rfl)) rfl (Calm.then Post.calm) ?_
                    refine AtO.quiet rfl (q_fieldAddr s33 rfl rfl rfl) rfl (Calm.then Post.calm) ?_
                    refine AtO.quiet rfl (q_load t3 rfl (Rd.loc (i := 0) rfl rfl)) rfl (Calm.then Post.calm) ?_
                    refine AtO.quiet rfl (q_build t33 s33 rfl rfl) rfl (Calm.then Post.calm) ?_
                    refine AtO.loud rfl (l_buildSlice Try.underlying22 t33 rfl rfl rfl rfl rfl) rfl (by rintro _ _ _ ⟨_, rfl, rfl, rfl⟩; exact ⟨fun _ h => h, .cons _ (.cons_cons _ (.cons_cons _ (.cons _ (.cons _ (.refl _)))))⟩) ?_
                    rintro _ _ _ ⟨b8, rfl, rfl, rfl⟩
                    refine AtO.loudA rfl (l_append rfl Try.underlying22 t33 rfl rfl hO (by simp) (i := 3) rfl rfl (news := [rowN (⟨true, x.key, 0, 0, ⟨none, 0, []⟩, 0⟩ : Nd)]) (by simp [rowN]) (RdS.loc (i := 0) rfl (m := 6) rfl) rfl rfl rfl (by omega) (by unfold maxLen; omega)) rfl (by rintro _ _ _ ⟨_, _, _, rfl, _, rfl, rfl⟩; exact ⟨fun _ h => h, (.cons _ (.cons_cons _ (.cons_cons _ (.cons _ (.cons _ (.refl _))))))⟩) ?_
                    rintro _ _ _ ⟨a4, c4, M4, rfl, ow4, rfl, rfl⟩
                    refine AtO.done ?_
                    refine At.skim 1 rfl rfl ?_
                    refine At.quiet (q_fieldAddr s109 rfl rfl rfl) rfl ?_
                    refine At.say 202 (.slice a4 (o ++ [(⟨true, x.key, 0, 0, ⟨none, 0, []⟩, 0⟩ : Nd)]).length c4) rfl (by simp) ?_
                    refine At.loudN (l_store t22 rfl rfl (i := 2) rfl rfl rfl rfl) ?_
                    rintro _ _ _ ⟨rfl, rfl⟩
                    refine At.nil ?_
                    refine At.then ?_
                    refine At.seq ?_
                    refine At.region ?_
                    have hO4 : Own 33 6 ((o ++ [(⟨true, x.key, 0, 0, ⟨none, 0, []⟩, 0⟩ : Nd)]).map rowN) a4 c4 M4 := by simpa using ow4
                    refine At.know (prsP ⟨none, 0, []⟩) (fun _ h => sl_nil _ _ _ (Nat.zero_le _)) ?_
                    refine At.know (psP (o ++ [(⟨true, x.key, 0, 0, ⟨none, 0, []⟩, 0⟩ : Nd)])) (fun _ h => psP_snoc (n := (⟨true, x.key, 0, 0, ⟨none, 0, []⟩, 0⟩ : Nd)) h.2.2.2.2.2.2.2.1 h.1) ?_
                    refine At.skim 1 rfl rfl ?_
                    refine At.fld s33 t3 rfl rfl rfl (Rd.loc (i := 1) rfl rfl) rfl rfl ?_
                    refine At.skim 1 rfl rfl ?_
                    refine At.fld s33 t3 rfl rfl rfl (Rd.loc (i := 1) rfl rfl) rfl rfl ?_
                    refine At.loud (l_buildSlice Try.underlying37 t3 rfl rfl rfl rfl rfl) rfl ?_
                    rintro _ _ _ ⟨b9, rfl, rfl, rfl⟩
                    refine At.freeze 0 (φ := intsP ⟨some ⟨b9, 0, none⟩, 1, [x.key]⟩) rfl (fun _ h => sl_of_block h rfl (by simp [rowI]) rfl (show (1 : Nat) ≤ maxLen from by decide)) ?_
                    refine At.front 4 rfl ?_
                    refine At.front 4 rfl ?_
                    refine At.front 4 rfl ?_
                    refine At.call en77 rfl (ih (i :: met) x.left (k.lefts x.key) lw ⟨_, _, [x.key]⟩ b (o ++ [(⟨true, x.key, 0, 0, ⟨none, 0, []⟩, 0⟩ : Nd)]) a4 c4 M4 a2 c2 _ (by omega) hO4 hS2 (by simp; omega) hlo rfl) (fun _ h => ⟨h.2.2.2.2.2.1, h.2.2.2.2.2.2.1, h.2.2.2.2.2.2.2.1, h.1, h.2.1, trivial⟩) (List.Perm.refl _) rfl ?_
                    rintro _ _ _ ⟨q1, a5, c5, M5, M6, bad1, v1, rfl, rfl, rfl, hO5, hb5, hs5, hn5⟩
                    refine At.skim 1 rfl rfl ?_
                    refine At.nil ?_
                    refine At.then ?_
                    refine At.seq ?_
                    refine At.region ?_
                    rcases hsl : shape t.p.ns f (i :: met) x.left (k.lefts x.key) with _ | sl
                    · skip
                      have hb1 : bad1 = true := hn5 hsl
                      subst hb1
                      have hO6 : Own 33 6 ((o ++ (⟨true, x.key, 0, 0, ⟨none, 0, []⟩, 0⟩ : Nd) :: q1).map rowN) a5 c5 M5 := by simpa using hO5
                      have hno := sh_left hxp hroute hgood hsl
                      refine At.skim 1 rfl rfl ?_
                      refine At.fld s33 t3 rfl rfl rfl (Rd.loc (i := 4) rfl rfl) rfl rfl ?_
                      refine At.fld s33 t3 rfl rfl rfl (Rd.loc (i := 4) rfl rfl) rfl rfl ?_
                      refine At.loud (l_buildSlice Try.underlying37 t3 rfl rfl rfl rfl rfl) rfl ?_
                      rintro _ _ _ ⟨b10, rfl, rfl, rfl⟩
                      refine At.skim 1 rfl rfl ?_
                      refine At.front 1 rfl ?_
                      refine At.call en77 rfl (node77b t b x.right _ _ _ _) (fun _ _ => trivial) (List.Perm.refl _) rfl ?_
                      rintro _ _ _ ⟨rfl, rfl, rfl⟩
                      refine At.skim 1 rfl rfl ?_
                      refine At.nil ?_
                      refine At.then ?_
                      refine At.seq ?_
                      refine At.draw 15 (.q 0 (.q 1 (.q 2 (.q 3 (.q 4 (.q 5 (.q 6 (.q 7 (.q 8 (.q 9 (.q 10 (.q 11 (.q 12 (.q 13 (.o 14 (.e)))))))))))))))) (_ :: _ :: _ :: _ :: L₀) (.cons_cons _ (.cons_cons _ (.cons _ (.cons _ (.cons_cons _ (.cons_cons _ (.refl _))))))) mixed (by kernel_rfl) rfl ?_
                      refine AtO.quiet rfl (q_move rfl) rfl (Calm.then Post.calm) ?_
                      refine AtO.quiet rfl (q_nilCheck rfl) rfl (Calm.then Post.calm) ?_
                      refine AtO.quiet rfl (q_fieldAddr s109 rfl rfl rfl) rfl (Calm.then Post.calm) ?_
                      refine AtO.quiet rfl (q_load t22 rfl (Rd.loc (i := 0) rfl rfl)) rfl (Calm.then Post.calm) ?_
                      refine AtO.quiet rfl (q_move rfl) rfl (Calm.then Post.calm) ?_
                      refine AtO.quiet rfl (q_move rfl) rfl (Calm.then Post.calm) ?_
                      refine AtO.quiet rfl (q_nilCheck rfl) rfl (Calm.then Post.calm) ?_
                      refine AtO.quiet rfl (q_fieldAddr s109 rfl rfl rfl) rfl (Calm.then Post.calm) ?_
                      refine AtO.quiet rfl (q_load t22 rfl (Rd.loc (i := 0) rfl rfl)) rfl (Calm.then Post.calm) ?_
                      refine AtO.quiet rfl (q_move rfl) rfl (Calm.then Post.calm) ?_
                      refine AtO.quiet rfl (q_move rfl) rfl (Calm.then Post.calm) ?_
                      refine AtO.quiet rfl (q_move rfl) rfl (Calm.then Post.calm) ?_
                      refine AtO.quiet rfl (q_indexOwn Try.underlying22 t33 rfl hO6 (by simp) rfl rfl (by simp)) rfl (Calm.then Post.calm) ?_
                      refine AtO.quiet rfl (q_fieldAddr s33 rfl rfl rfl) rfl (Calm.then Post.calm) ?_
                      refine AtO.loudNA rfl (l_storeOwn t3 rfl rfl hO6 (i := 2) rfl (get_mid o q1 _) rfl rfl rfl) (by rintro _ _ _ ⟨_, _, rfl, rfl⟩; exact ⟨fun _ h => h, (.cons_cons _ (.cons_cons _ (.cons _ (.cons _ (.cons_cons _ (.cons_cons _ (.refl _)))))))⟩) ?_
                      rintro _ _ _ ⟨Mow16, ow16, rfl, rfl⟩
                      refine AtO.done ?_
                      refine At.quiet (q_indexOwn Try.underlying22 t33 rfl hO6 (by simp) rfl rfl (by simp)) rfl ?_
                      refine At.quiet (q_fieldAddr s33 rfl rfl rfl) rfl ?_
                      refine At.loudN (l_storeOwn t3 rfl rfl (show Own 33 6 ((o ++ (⟨true, x.key, v1, 0, ⟨none, 0, []⟩, 0⟩ : Nd) :: q1).map rowN) a5 c5 _ by rw [← set_mid o q1 (⟨true, x.key, 0, 0, ⟨none, 0, []⟩, 0⟩ : Nd)]; exact ow16) (i := 2) rfl (get_mid o q1 (⟨true, x.key, v1, 0, ⟨none, 0, []⟩, 0⟩ : Nd)) rfl rfl rfl) ?_
                      rintro _ _ _ ⟨Mow17, ow17, rfl, rfl⟩
                      refine At.nil ?_
                      refine At.then ?_
                      refine At.seq ?_
                      refine At.region ?_
                      have hO8 : Own 33 6 ((o ++ (⟨true, x.key, v1, 0, ⟨none, 0, []⟩, 0⟩ : Nd) :: q1).map rowN) a5 c5 Mow17 := by rw [← set_mid o q1 (⟨true, x.key, v1, 0, ⟨none, 0, []⟩, 0⟩ : Nd)]; exact ow17
                      refine At.know (psP (o ++ (⟨true, x.key, v1, 0, ⟨none, 0, []⟩, 0⟩ : Nd) :: q1)) (fun _ h => psP_mid (n := (⟨true, x.key, 0, 0, ⟨none, 0, []⟩, 0⟩ : Nd)) (m := (⟨true, x.key, v1, 0, ⟨none, 0, []⟩, 0⟩ : Nd)) (by simpa using h.1) h.2.2.2.1) ?_
                      refine At.skim 2 rfl rfl ?_
                      refine At.nil ?_
                      refine At.then ?_
                      refine At.ret ?_
                      exact At.results (Γr := [_]) (M := [planBox t b a5 ((o ++ [(⟨true, x.key, 0, 0, ⟨none, 0, []⟩, 0⟩ : Nd)]) ++ q1).length c5 a2 c2 true, _, _]) rfl (RVals.cons (RVal.tmp rfl) RVals.nil) (.tail _ (.tail _ (.tail _ (.tail _ (.tail _ (.tail _ (.head _))))))) (fun _ h => ⟨h.1, trivial⟩) (.cons_cons _ (.cons _ (.cons_cons _ (.cons_cons _ (.cons _ (.cons _ (.refl _))))))) (NodeEnd.left (q := (⟨true, x.key, v1, 0, ⟨none, 0, []⟩, 0⟩ : Nd) :: q1) hno hO8 (by simp) (by have := hcs.1; simp at hb5 ⊢; omega))
                    · skip
                      obtain ⟨rfl, rfl, hq1, hS5, hlen5⟩ := hs5 sl hsl
                      have hcm := count_more t.ns.l.length sl.places (i :: met)
                      have hc1 := hcs.1
                      refine At.skim 1 rfl rfl ?_
                      refine At.fld s33 t3 rfl rfl rfl (Rd.loc (i := 4) rfl rfl) rfl rfl ?_
                      refine At.fld s33 t3 rfl rfl rfl (Rd.loc (i := 4) rfl rfl) rfl rfl ?_
                      refine At.loud (l_buildSlice Try.underlying37 t3 rfl rfl rfl rfl rfl) rfl ?_
                      rintro _ _ _ ⟨b11, rfl, rfl, rfl⟩
                      refine At.skim 1 rfl rfl ?_
                      refine At.freeze 0 (φ := intsP ⟨some ⟨b11, 0, none⟩, 1, [x.key]⟩) rfl (fun _ h => sl_of_block h rfl (by simp [rowI]) rfl (show (1 : Nat) ≤ maxLen from by decide)) ?_
                      refine At.front 2 rfl ?_
                      refine At.front 2 rfl ?_
                      refine At.front 2 rfl ?_
                      refine At.call en77 rfl (ih (sl.places ++ i :: met) x.right (k.rights x.key) ⟨_, _, [x.key]⟩ hw b ((o ++ [(⟨true, x.key, 0, 0, ⟨none, 0, []⟩, 0⟩ : Nd)]) ++ q1) a5 c5 M5 a2 c2 M6 (by omega) hO5 hS5 (by have h1 := hlen5; simp only [List.length_append, List.length_singleton] at h1 ⊢; omega) rfl hhi) (fun _ h => ⟨h.2.2.2.2.2.2.2.1, h.2.2.2.2.2.2.2.2.1, h.1, h.2.2.2.2.2.2.2.2.2.2.1, h.2.1, trivial⟩) (List.Perm.refl _) rfl ?_
                      rintro _ _ _ ⟨q2, a6, c6, M7, M8, bad2, v2, rfl, rfl, rfl, hO9, hb9, hs9, hn9⟩
                      refine At.skim 1 rfl rfl ?_
                      refine At.nil ?_
                      refine At.then ?_
                      refine At.seq ?_
                      have hO6 : Own 33 6 ((o ++ (⟨true, x.key, 0, 0, ⟨none, 0, []⟩, 0⟩ : Nd) :: (q1 ++ q2)).map rowN) a6 c6 M7 := by simpa using hO9
                      refine At.draw 15 (.q 0 (.q 1 (.q 2 (.q 3 (.q 4 (.q 5 (.q 6 (.q 7 (.q 8 (.q 9 (.q 10 (.q 11 (.q 12 (.q 13 (.o 14 (.e)))))))))))))))) (_ :: _ :: _ :: L₀) (.cons_cons _ (.cons _ (.cons _ (.cons_cons _ (.cons_cons _ (.refl _)))))) mixed (by kernel_rfl) rfl ?_
                      refine AtO.quiet rfl (q_move rfl) rfl (Calm.then Post.calm) ?_
                      refine AtO.quiet rfl (q_nilCheck rfl) rfl (Calm.then Post.calm) ?_
                      refine AtO.quiet rfl (q_fieldAddr s109 rfl rfl rfl) rfl (Calm.then Post.calm) ?_
                      refine AtO.quiet rfl (q_load t22 rfl (Rd.loc (i := 0) rfl rfl)) rfl (Calm.then Post.calm) ?_
                      refine AtO.quiet rfl (q_move rfl) rfl (Calm.then Post.calm) ?_
                      refine AtO.quiet rfl (q_move rfl) rfl (Calm.then Post.calm) ?_
                      refine AtO.quiet rfl (q_nilCheck rfl) rfl (Calm.then Post.calm) ?_
                      refine AtO.quiet rfl (q_fieldAddr s109 rfl rfl rfl) rfl (Calm.then Post.calm) ?_
                      refine AtO.quiet rfl (q_load t22 rfl (Rd.loc (i := 0) rfl rfl)) rfl (Calm.then Post.calm) ?_
                      refine AtO.quiet rfl (q_move rfl) rfl (Calm.then Post.calm) ?_
                      refine AtO.quiet rfl (q_move rfl) rfl (Calm.then Post.calm) ?_
                      refine AtO.quiet rfl (q_move rfl) rfl (Calm.then Post.calm) ?_
                      refine AtO.quiet rfl (q_indexOwn Try.underlying22 t33 rfl hO6 (by simp) rfl rfl (by simp)) rfl (Calm.then Post.calm) ?_
                      refine AtO.quiet rfl (q_fieldAddr s33 rfl rfl rfl) rfl (Calm.then Post.calm) ?_
                      refine AtO.loudNA rfl (l_storeOwn t3 rfl rfl hO6 (i := 1) rfl (get_mid o (q1 ++ q2) _) rfl rfl rfl) (by rintro _ _ _ ⟨_, _, rfl, rfl⟩; exact ⟨fun _ h => h, (.cons_cons _ (.cons _ (.cons _ (.cons_cons _ (.cons_cons _ (.refl _))))))⟩) ?_
                      rintro _ _ _ ⟨Mow18, ow18, rfl, rfl⟩
                      refine AtO.done ?_
                      refine At.quiet (q_indexOwn Try.underlying22 t33 rfl hO6 (by simp) rfl rfl (by simp)) rfl ?_
                      refine At.quiet (q_fieldAddr s33 rfl rfl rfl) rfl ?_
                      refine At.loudN (l_storeOwn t3 rfl rfl (show Own 33 6 ((o ++ (⟨true, x.key, (((o ++ [(⟨true, x.key, 0, 0, ⟨none, 0, []⟩, 0⟩ : Nd)]).length : Nat) : Int), 0, ⟨none, 0, []⟩, 0⟩ : Nd) :: (q1 ++ q2)).map rowN) a6 c6 _ by rw [← set_mid o (q1 ++ q2) (⟨true, x.key, 0, 0, ⟨none, 0, []⟩, 0⟩ : Nd)]; exact ow18) (i := 1) rfl (get_mid o (q1 ++ q2) (⟨true, x.key, (((o ++ [(⟨true, x.key, 0, 0, ⟨none, 0, []⟩, 0⟩ : Nd)]).length : Nat) : Int), 0, ⟨none, 0, []⟩, 0⟩ : Nd)) rfl rfl rfl) ?_
                      rintro _ _ _ ⟨Mow19, ow19, rfl, rfl⟩
                      refine At.nil ?_
                      refine At.then ?_
                      refine At.seq ?_
                      refine At.region ?_
                      have hO8 : Own 33 6 ((o ++ (⟨true, x.key, (((o ++ [(⟨true, x.key, 0, 0, ⟨none, 0, []⟩, 0⟩ : Nd)]).length : Nat) : Int), v2, ⟨none, 0, []⟩, 0⟩ : Nd) :: (q1 ++ q2)).map rowN) a6 c6 Mow19 := by rw [← set_mid o (q1 ++ q2) (⟨true, x.key, (((o ++ [(⟨true, x.key, 0, 0, ⟨none, 0, []⟩, 0⟩ : Nd)]).length : Nat) : Int), 0, ⟨none, 0, []⟩, 0⟩ : Nd)]; exact ow19
                      refine At.know (psP (o ++ (⟨true, x.key, (((o ++ [(⟨true, x.key, 0, 0, ⟨none, 0, []⟩, 0⟩ : Nd)]).length : Nat) : Int), v2, ⟨none, 0, []⟩, 0⟩ : Nd) :: (q1 ++ q2))) (fun _ h => psP_mid (n := (⟨true, x.key, 0, 0, ⟨none, 0, []⟩, 0⟩ : Nd)) (m := (⟨true, x.key, (((o ++ [(⟨true, x.key, 0, 0, ⟨none, 0, []⟩, 0⟩ : Nd)]).length : Nat) : Int), v2, ⟨none, 0, []⟩, 0⟩ : Nd)) (by simpa using h.1) h.2.2.2.2.2.1) ?_
                      refine At.skim 2 rfl rfl ?_
                      refine At.nil ?_
                      refine At.then ?_
                      refine At.ret ?_
                      exact At.results (Γr := [_]) (M := [planBox t b a6 (((o ++ [(⟨true, x.key, 0, 0, ⟨none, 0, []⟩, 0⟩ : Nd)]) ++ q1) ++ q2).length c6 a2 c2 bad2, _, M8]) rfl (RVals.cons (RVal.tmp rfl) RVals.nil) (.tail _ (.tail _ (.tail _ (.tail _ (.tail _ (.tail _ (.tail _ (.tail _ (.head _))))))))) (fun _ h => ⟨h.1, trivial⟩) (.cons_cons _ (.cons_cons _ (.cons_cons _ (.cons _ (.cons _ (.refl _)))))) (NodeEnd.node (sh_right hxp hmet hroute hgood hsl) hxg hroute ⟨hpl, hps⟩ hq1 hO8 rfl hc1 hlen5 hb9 rfl hs9 hn9)
              · skip
                refine AtO.shut rfl rfl rfl rfl (Calm.then (Calm.then Post.calm)) ?_
                refine AtO.shut rfl rfl rfl rfl (Calm.then (Calm.then Post.calm)) ?_
                refine AtO.shut rfl rfl rfl rfl (Calm.then (Calm.then Post.calm)) ?_
                refine AtO.shut rfl rfl rfl rfl (Calm.then (Calm.then Post.calm)) ?_
                refine AtO.shut rfl rfl rfl rfl (Calm.then (Calm.then Post.calm)) ?_
                refine AtO.shut rfl rfl rfl rfl (Calm.then (Calm.then Post.calm)) ?_
                refine AtO.quietG rfl rfl rfl (q_pickF rfl rfl) rfl (Calm.then (Calm.then Post.calm)) ?_
                refine AtO.quiet rfl (q_pickF rfl rfl) rfl (Calm.then (Calm.then Post.calm)) ?_
                refine AtO.quiet rfl (q_move rfl) rfl (Calm.then (Calm.then Post.calm)) ?_
                refine AtO.quietG rfl rfl rfl (q_move rfl) rfl (Calm.then (Calm.then Post.calm)) ?_
                refine AtO.quietG rfl rfl rfl (q_len Try.underlying37 rfl) rfl (Calm.then (Calm.then Post.calm)) ?_
                refine AtO.quietG rfl rfl rfl (q_gtr rfl rfl) rfl (Calm.then (Calm.then Post.calm)) ?_
                refine AtO.quietG rfl rfl rfl (q_move rfl) rfl (Calm.then (Calm.then Post.calm)) ?_
                refine AtO.splitP (d := 181) rfl (fun hH => ?_) (fun hH => ?_)
                · skip
                  refine AtO.quietG rfl rfl rfl (q_fieldAddr s33 rfl rfl rfl) rfl (Calm.then (Calm.then Post.calm)) ?_
                  refine AtO.quietG rfl rfl rfl (q_load t3 rfl (Rd.loc (i := 0) rfl rfl)) rfl (Calm.then (Calm.then Post.calm)) ?_
                  refine AtO.quietG rfl rfl rfl (q_move rfl) rfl (Calm.then (Calm.then Post.calm)) ?_
                  refine AtO.quietG rfl rfl rfl (q_index Try.underlying37 t3 rfl (.tail _ (.tail _ (.tail _ (.tail _ (.tail _ (.head _)))))) (by simp) rfl rfl (lt_of_get (hi_get hhi hH))) rfl (Calm.then (Calm.then Post.calm)) ?_
                  refine AtO.quietG rfl rfl rfl (q_load t3 rfl (Rd.sl0 (.tail _ (.tail _ (.tail _ (.tail _ (.tail _ (.head _)))))) (map_get (hi_get hhi hH)) rfl)) rfl (Calm.then (Calm.then Post.calm)) ?_
                  refine AtO.done ?_
                  refine At.skim 3 rfl rfl ?_
                  refine At.nil ?_
                  refine At.then ?_
                  refine At.if rfl (fun hk2 => ?_) (fun hk2 => ?_)
                  · skip
                    refine At.seq ?_
                    refine At.region ?_
                    refine At.skim 2 rfl rfl ?_
                    refine At.quiet (q_fieldAddr s109 rfl rfl rfl) rfl ?_
                    refine At.loudN (l_store t4 rfl rfl (i := 1) rfl rfl rfl rfl) ?_
                    rintro _ _ _ ⟨rfl, rfl⟩
                    refine At.nil ?_
                    refine At.then ?_
                    refine At.seq ?_
                    refine At.region ?_
                    refine At.skim 1 rfl rfl ?_
                    refine At.nil ?_
                    refine At.then ?_
                    refine At.ret ?_
                    refine At.thenRet ?_
                    exact At.results (Γr := [psP o]) (M := [(planBox t b a o.length c a2 c2 true), Mo, _]) rfl (RVals.cons (RVal.tmp rfl) RVals.nil) (.tail _ (.head _)) (fun _ h => ⟨h.2.2.2.2.2.2.1, trivial⟩) (.cons _ (.cons_cons _ (.cons_cons _ (.cons_cons _ (.refl _))))) (NodeEnd.no (sh_bad hxp hroute (rb4 (by rw [hl2, decide_eq_true hH]) hk2)) hO)
                  · skip
                    have hgood : routeOk x.p k = true := rgood (show x.ps.l.length = 0 by omega) (show x.stat = 0 by omega) (fun h => by rw [hl1] at h; have := of_decide_eq_true h; show k.least < x.key; omega) (fun h => by rw [hl2] at h; have := of_decide_eq_true h; show x.key < k.most; omega)
                    obtain ⟨hpl, hps⟩ := route_pure hgood
                    refine At.skip ?_
                    refine At.then ?_
                    refine At.seq ?_
                    refine At.draw 10 (.q 0 (.q 1 (.q 2 (.q 3 (.q 4 (.q 5 (.q 6 (.q 7 (.o 8 (.o 9 (.e))))))))))) (_ :: _ :: L₀) (.cons_cons _ (.cons_cons _ (.cons _ (.cons _ (.refl _))))) mixed (by kernel_rfl) rfl ?_
                    refine AtO.quiet rfl (q_move rfl) rfl (Calm.then Post.calm) ?_
                    refine AtO.quiet rfl (q_move rfl) rfl (Calm.then Post.calm) ?_
                    refine AtO.quiet rfl (q_nilCheck rfl) rfl (Calm.then Post.calm) ?_
                    refine AtO.quiet rfl (q_fieldAddr s109 rfl rfl rfl) rfl (Calm.then Post.calm) ?_
                    refine AtO.quiet rfl (q_load t22 rfl (Rd.loc (i := 1) rfl rfl)) rfl (Calm.then Post.calm) ?_
                    refine AtO.quiet rfl (q_fieldAddr s33 rfl rfl rfl) rfl (Calm.then Post.calm) ?_
                    refine AtO.quiet rfl (q_load t3 rfl (Rd.loc (i := 0) rfl rfl)) rfl (Calm.then Post.calm) ?_
                    refine AtO.quiet rfl (q_build t33 s33 rfl rfl) rfl (Calm.then Post.calm) ?_
                    refine AtO.loud rfl (l_buildSlice Try.underlying22 t33 rfl rfl rfl rfl rfl) rfl (by rintro _ _ _ ⟨_, rfl, rfl, rfl⟩; exact ⟨fun _ h => h, .cons _ (.cons_cons _ (.cons_cons _ (.cons _ (.cons _ (.refl _)))))⟩) ?_
                    rintro _ _ _ ⟨b12, rfl, rfl, rfl⟩
                    refine AtO.loudA rfl (l_append rfl Try.underlying22 t33 rfl rfl hO (by simp) (i := 3) rfl rfl (news := [rowN (⟨true, x.key, 0, 0, ⟨none, 0, []⟩, 0⟩ : Nd)]) (by simp [rowN]) (RdS.loc (i := 0) rfl (m := 6) rfl) rfl rfl rfl (by omega) (by unfold maxLen; omega)) rfl (by rintro _ _ _ ⟨_, _, _, rfl, _, rfl, rfl⟩; exact ⟨fun _ h => h, (.cons _ (.cons_cons _ (.cons_cons _ (.cons _ (.cons _ (.refl _))))))⟩) ?_
                    rintro _ _ _ ⟨a4, c4, M4, rfl, ow4, rfl, rfl⟩
                    refine AtO.done ?_
                    refine At.skim 1 rfl rfl ?_
                    refine At.quiet (q_fieldAddr s109 rfl rfl rfl) rfl ?_
                    refine At.say 202 (.slice a4 (o ++ [(⟨true, x.key, 0, 0, ⟨none, 0, []⟩, 0⟩ : Nd)]).length c4) rfl (by simp) ?_
                    refine At.loudN (l_store t22 rfl rfl (i := 2) rfl rfl rfl rfl) ?_
                    rintro _ _ _ ⟨rfl, rfl⟩
                    refine At.nil ?_
                    refine At.then ?_
                    refine At.seq ?_
                    refine At.region ?_
                    have hO4 : Own 33 6 ((o ++ [(⟨true, x.key, 0, 0, ⟨none, 0, []⟩, 0⟩ : Nd)]).map rowN) a4 c4 M4 := by simpa using ow4
                    refine At.know (prsP ⟨none, 0, []⟩) (fun _ h => sl_nil _ _ _ (Nat.zero_le _)) ?_
                    refine At.know (psP (o ++ [(⟨true, x.key, 0, 0, ⟨none, 0, []⟩, 0⟩ : Nd)])) (fun _ h => psP_snoc (n := (⟨true, x.key, 0, 0, ⟨none, 0, []⟩, 0⟩ : Nd)) h.2.2.2.2.2.2.2.1 h.1) ?_
                    refine At.skim 1 rfl rfl ?_
                    refine At.fld s33 t3 rfl rfl rfl (Rd.loc (i := 1) rfl rfl) rfl rfl ?_
                    refine At.skim 1 rfl rfl ?_
                    refine At.fld s33 t3 rfl rfl rfl (Rd.loc (i := 1) rfl rfl) rfl rfl ?_
                    refine At.loud (l_buildSlice Try.underlying37 t3 rfl rfl rfl rfl rfl) rfl ?_
                    rintro _ _ _ ⟨b13, rfl, rfl, rfl⟩
                    refine At.freeze 0 (φ := intsP ⟨some ⟨b13, 0, none⟩, 1, [x.key]⟩) rfl (fun _ h => sl_of_block h rfl (by simp [rowI]) rfl (show (1 : Nat) ≤ maxLen from by decide)) ?_
                    refine At.front 4 rfl ?_
                    refine At.front 4 rfl ?_
                    refine At.front 4 rfl ?_
                    refine At.call en77 rfl (ih (i :: met) x.left (k.lefts x.key) lw ⟨_, _, [x.key]⟩ b (o ++ [(⟨true, x.key, 0, 0, ⟨none, 0, []⟩, 0⟩ : Nd)]) a4 c4 M4 a2 c2 _ (by omega) hO4 hS2 (by simp; omega) hlo rfl) (fun _ h => ⟨h.2.2.2.2.2.1, h.2.2.2.2.2.2.1, h.2.2.2.2.2.2.2.1, h.1, h.2.1, trivial⟩) (List.Perm.refl _) rfl ?_
                    rintro _ _ _ ⟨q1, a5, c5, M5, M6, bad1, v1, rfl, rfl, rfl, hO5, hb5, hs5, hn5⟩
                    refine At.skim 1 rfl rfl ?_
                    refine At.nil ?_
                    refine At.then ?_
                    refine At.seq ?_
                    refine At.region ?_
                    rcases hsl : shape t.p.ns f (i :: met) x.left (k.lefts x.key) with _ | sl
                    · skip
                      have hb1 : bad1 = true := hn5 hsl
                      subst hb1
                      have hO6 : Own 33 6 ((o ++ (⟨true, x.key, 0, 0, ⟨none, 0, []⟩, 0⟩ : Nd) :: q1).map rowN) a5 c5 M5 := by simpa using hO5
                      have hno := sh_left hxp hroute hgood hsl
                      refine At.skim 1 rfl rfl ?_
                      refine At.fld s33 t3 rfl rfl rfl (Rd.loc (i := 4) rfl rfl) rfl rfl ?_
                      refine At.fld s33 t3 rfl rfl rfl (Rd.loc (i := 4) rfl rfl) rfl rfl ?_
                      refine At.loud (l_buildSlice Try.underlying37 t3 rfl rfl rfl rfl rfl) rfl ?_
                      rintro _ _ _ ⟨b14, rfl, rfl, rfl⟩
                      refine At.skim 1 rfl rfl ?_
                      refine At.front 1 rfl ?_
                      refine At.call en77 rfl (node77b t b x.right _ _ _ _) (fun _ _ => trivial) (List.Perm.refl _) rfl ?_
                      rintro _ _ _ ⟨rfl, rfl, rfl⟩
                      refine At.skim 1 rfl rfl ?_
                      refine At.nil ?_
                      refine At.then ?_
                      refine At.seq ?_
                      refine At.draw 15 (.q 0 (.q 1 (.q 2 (.q 3 (.q 4 (.q 5 (.q 6 (.q 7 (.q 8 (.q 9 (.q 10 (.q 11 (.q 12 (.q 13 (.o 14 (.e)))))))))))))))) (_ :: _ :: _ :: _ :: L₀) (.cons_cons _ (.cons_cons _ (.cons _ (.cons _ (.cons_cons _ (.cons_cons _ (.refl _))))))) mixed (by kernel_rfl) rfl ?_
                      refine AtO.quiet rfl (q_move rfl) rfl (Calm.then Post.calm) ?_
                      refine AtO.quiet rfl (q_nilCheck rfl) rfl (Calm.then Post.calm) ?_
                      refine AtO.quiet rfl (q_fieldAddr s109 rfl rfl rfl) rfl (Calm.then Post.calm) ?_
                      refine AtO.quiet rfl (q_load t22 rfl (Rd.loc (i := 0) rfl rfl)) rfl (Calm.then Post.calm) ?_
                      refine AtO.quiet rfl (q_move rfl) rfl (Calm.then Post.calm) ?_
                      refine AtO.quiet rfl (q_move rfl) rfl (Calm.then Post.calm) ?_
                      refine AtO.quiet rfl (q_nilCheck rfl) rfl (Calm.then Post.calm) ?_
                      refine AtO.quiet rfl (q_fieldAddr s109 rfl rfl rfl) rfl (Calm.then Post.calm) ?_
                      refine AtO.quiet rfl (q_load t22 rfl (Rd.loc (i := 0) rfl rfl)) rfl (Calm.then Post.calm) ?_
                      refine AtO.quiet rfl (q_move rfl) rfl (Calm.then Post.calm) ?_
                      refine AtO.quiet rfl (q_move rfl) rfl (Calm.then Post.calm) ?_
                      refine AtO.quiet rfl (q_move rfl) rfl (Calm.then Post.calm) ?_
                      refine AtO.quiet rfl (q_indexOwn Try.underlying22 t33 rfl hO6 (by simp) rfl rfl (by simp)) rfl (Calm.then Post.calm) ?_
                      refine AtO.quiet rfl (q_fieldAddr s33 rfl rfl rfl) rfl (Calm.then Post.calm) ?_
                      refine AtO.loudNA rfl (l_storeOwn t3 rfl rfl hO6 (i := 2) rfl (get_mid o q1 _) rfl rfl rfl) (by rintro _ _ _ ⟨_, _, rfl, rfl⟩; exact ⟨fun _ h => h, (.cons_cons _ (.cons_cons _ (.cons _ (.cons _ (.cons_cons _ (.cons_cons _ (.refl _)))))))⟩) ?_
                      rintro _ _ _ ⟨Mow20, ow20, rfl, rfl⟩
                      refine AtO.done ?_
                      refine At.quiet (q_indexOwn Try.underlying22 t33 rfl hO6 (by simp) rfl rfl (by simp)) rfl ?_
                      refine At.quiet (q_fieldAddr s33 rfl rfl rfl) rfl ?_
                      refine At.loudN (l_storeOwn t3 rfl rfl (show Own 33 6 ((o ++ (⟨true, x.key, v1, 0, ⟨none, 0, []⟩, 0⟩ : Nd) :: q1).map rowN) a5 c5 _ by rw [← set_mid o q1 (⟨true, x.key, 0, 0, ⟨none, 0, []⟩, 0⟩ : Nd)]; exact ow20) (i := 2) rfl (get_mid o q1 (⟨true, x.key, v1, 0, ⟨none, 0, []⟩, 0⟩ : Nd)) rfl rfl rfl) ?_
                      rintro _ _ _ ⟨Mow21, ow21, rfl, rfl⟩
                      refine At.nil ?_
                      refine At.then ?_
                      refine At.seq ?_
                      refine At.region ?_
                      have hO8 : Own 33 6 ((o ++ (⟨true, x.key, v1, 0, ⟨none, 0, []⟩, 0⟩ : Nd) :: q1).map rowN) a5 c5 Mow21 := by rw [← set_mid o q1 (⟨true, x.key, v1, 0, ⟨none, 0, []⟩, 0⟩ : Nd)]; exact ow21
                      refine At.know (psP (o ++ (⟨true, x.key, v1, 0, ⟨none, 0, []⟩, 0⟩ : Nd) :: q1)) (fun _ h => psP_mid (n := (⟨true, x.key, 0, 0, ⟨none, 0, []⟩, 0⟩ : Nd)) (m := (⟨true, x.key, v1, 0, ⟨none, 0, []⟩, 0⟩ : Nd)) (by simpa using h.1) h.2.2.2.1) ?_
                      refine At.skim 2 rfl rfl ?_
                      refine At.nil ?_
                      refine At.then ?_
                      refine At.ret ?_
                      exact At.results (Γr := [_]) (M := [planBox t b a5 ((o ++ [(⟨true, x.key, 0, 0, ⟨none, 0, []⟩, 0⟩ : Nd)]) ++ q1).length c5 a2 c2 true, _, _]) rfl (RVals.cons (RVal.tmp rfl) RVals.nil) (.tail _ (.tail _ (.tail _ (.tail _ (.tail _ (.tail _ (.head _))))))) (fun _ h => ⟨h.1, trivial⟩) (.cons_cons _ (.cons _ (.cons_cons _ (.cons_cons _ (.cons _ (.cons _ (.refl _))))))) (NodeEnd.left (q := (⟨true, x.key, v1, 0, ⟨none, 0, []⟩, 0⟩ : Nd) :: q1) hno hO8 (by simp) (by have := hcs.1; simp at hb5 ⊢; omega))
                    · skip
                      obtain ⟨rfl, rfl, hq1, hS5, hlen5⟩ := hs5 sl hsl
                      have hcm := count_more t.ns.l.length sl.places (i :: met)
                      have hc1 := hcs.1
                      refine At.skim 1 rfl rfl ?_
                      refine At.fld s33 t3 rfl rfl rfl (Rd.loc (i := 4) rfl rfl) rfl rfl ?_
                      refine At.fld s33 t3 rfl rfl rfl (Rd.loc (i := 4) rfl rfl) rfl rfl ?_
                      refine At.loud (l_buildSlice Try.underlying37 t3 rfl rfl rfl rfl rfl) rfl ?_
                      rintro _ _ _ ⟨b15, rfl, rfl, rfl⟩
                      refine At.skim 1 rfl rfl ?_
                      refine At.freeze 0 (φ := intsP ⟨some ⟨b15, 0, none⟩, 1, [x.key]⟩) rfl (fun _ h => sl_of_block h rfl (by simp [rowI]) rfl (show (1 : Nat) ≤ maxLen from by decide)) ?_
                      refine At.front 2 rfl ?_
                      refine At.front 2 rfl ?_
                      refine At.front 2 rfl ?_
                      refine At.call en77 rfl (ih (sl.places ++ i :: met) x.right (k.rights x.key) ⟨_, _, [x.key]⟩ hw b ((o ++ [(⟨true, x.key, 0, 0, ⟨none, 0, []⟩, 0⟩ : Nd)]) ++ q1) a5 c5 M5 a2 c2 M6 (by omega) hO5 hS5 (by have h1 := hlen5; simp only [List.length_append, List.length_singleton] at h1 ⊢; omega) rfl hhi) (fun _ h => ⟨h.2.2.2.2.2.2.2.1, h.2.2.2.2.2.2.2.2.1, h.1, h.2.2.2.2.2.2.2.2.2.2.1, h.2.1, trivial⟩) (List.Perm.refl _) rfl ?_
                      rintro _ _ _ ⟨q2, a6, c6, M7, M8, bad2, v2, rfl, rfl, rfl, hO9, hb9, hs9, hn9⟩
                      refine At.skim 1 rfl rfl ?_
                      refine At.nil ?_
                      refine At.then ?_
                      refine At.seq ?_
                      have hO6 : Own 33 6 ((o ++ (⟨true, x.key, 0, 0, ⟨none, 0, []⟩, 0⟩ : Nd) :: (q1 ++ q2)).map rowN) a6 c6 M7 := by simpa using hO9
                      refine At.draw 15 (.q 0 (.q 1 (.q 2 (.q 3 (.q 4 (.q 5 (.q 6 (.q 7 (.q 8 (.q 9 (.q 10 (.q 11 (.q 12 (.q 13 (.o 14 (.e)))))))))))))))) (_ :: _ :: _ :: L₀) (.cons_cons _ (.cons _ (.cons _ (.cons_cons _ (.cons_cons _ (.refl _)))))) mixed (by kernel_rfl) rfl ?_
                      refine AtO.quiet rfl (q_move rfl) rfl (Calm.then Post.calm) ?_
                      refine AtO.quiet rfl (q_nilCheck rfl) rfl (Calm.then Post.calm) ?_
                      refine AtO.quiet rfl (q_fieldAddr s109 rfl rfl rfl) rfl (Calm.then Post.calm) ?_
                      refine AtO.quiet rfl (q_load t22 rfl (Rd.loc (i := 0) rfl rfl)) rfl (Calm.then Post.calm) ?_
                      refine AtO.quiet rfl (q_move rfl) rfl (Calm.then Post.calm) ?_
                      refine AtO.quiet rfl (q_move rfl) rfl (Calm.then Post.calm) ?_
                      refine AtO.quiet rfl (q_nilCheck rfl) rfl (Calm.then Post.calm) ?_
                      refine AtO.quiet rfl (q_fieldAddr s109 rfl rfl rfl) rfl (Calm.then Post.calm) ?_
                      refine AtO.quiet rfl (q_load t22 rfl (Rd.loc (i := 0) rfl rfl)) rfl (Calm.then Post.calm) ?_
                      refine AtO.quiet rfl (q_move rfl) rfl (Calm.then Post.calm) ?_
                      refine AtO.quiet rfl (q_move rfl) rfl (Calm.then Post.calm) ?_
                      refine AtO.quiet rfl (q_move rfl) rfl (Calm.then Post.calm) ?_
                      refine AtO.quiet rfl (q_indexOwn Try.underlying22 t33 rfl hO6 (by simp) rfl rfl (by simp)) rfl (Calm.then Post.calm) ?_
                      refine AtO.quiet rfl (q_fieldAddr s33 rfl rfl rfl) rfl (Calm.then Post.calm) ?_
                      refine AtO.loudNA rfl (l_storeOwn t3 rfl rfl hO6 (i := 1) rfl (get_mid o (q1 ++ q2) _) rfl rfl rfl) (by rintro _ _ _ ⟨_, _, rfl, rfl⟩; exact ⟨fun _ h => h, (.cons_cons _ (.cons _ (.cons _ (.cons_cons _ (.cons_cons _ (.refl _))))))⟩) ?_
                      rintro _ _ _ ⟨Mow22, ow22, rfl, rfl⟩
                      refine AtO.done ?_
                      refine At.quiet (q_indexOwn Try.underlying22 t33 rfl hO6 (by simp) rfl rfl (by simp)) rfl ?_
                      refine At.quiet (q_fieldAddr s33 rfl rfl rfl) rfl ?_
                      refine At.loudN (l_storeOwn t3 rfl rfl (show Own 33 6 ((o ++ (⟨true, x.key, (((o ++ [(⟨true, x.key, 0, 0, ⟨none, 0, []⟩, 0⟩ : Nd)]).length : Nat) : Int), 0, ⟨none, 0, []⟩, 0⟩ : Nd) :: (q1 ++ q2)).map rowN) a6 c6 _ by rw [← set_mid o (q1 ++ q2) (⟨true, x.key, 0, 0, ⟨none, 0, []⟩, 0⟩ : Nd)]; exact ow22) (i := 1) rfl (get_mid o (q1 ++ q2) (⟨true, x.key, (((o ++ [(⟨true, x.key, 0, 0, ⟨none, 0, []⟩, 0⟩ : Nd)]).length : Nat) : Int), 0, ⟨none, 0, []⟩, 0⟩ : Nd)) rfl rfl rfl) ?_
                      rintro _ _ _ ⟨Mow23, ow23, rfl, rfl⟩
                      refine At.nil ?_
                      refine At.then ?_
                      refine At.seq ?_
                      refine At.region ?_
                      have hO8 : Own 33 6 ((o ++ (⟨true, x.key, (((o ++ [(⟨true, x.key, 0, 0, ⟨none, 0, []⟩, 0⟩ : Nd)]).length : Nat) : Int), v2, ⟨none, 0, []⟩, 0⟩ : Nd) :: (q1 ++ q2)).map rowN) a6 c6 Mow23 := by rw [← set_mid o (q1 ++ q2) (⟨true, x.key, (((o ++ [(⟨true, x.key, 0, 0, ⟨none, 0, []⟩, 0⟩ : Nd)]).length : Nat) : Int), 0, ⟨none, 0, []⟩, 0⟩ : Nd)]; exact ow23
                      refine At.know (psP (o ++ (⟨true, x.key, (((o ++ [(⟨true, x.key, 0, 0, ⟨none, 0, []⟩, 0⟩ : Nd)]).length : Nat) : Int), v2, ⟨none, 0, []⟩, 0⟩ : Nd) :: (q1 ++ q2))) (fun _ h => psP_mid (n := (⟨true, x.key, 0, 0, ⟨none, 0, []⟩, 0⟩ : Nd)) (m := (⟨true, x.key, (((o ++ [(⟨true, x.key, 0, 0, ⟨none, 0, []⟩, 0⟩ : Nd)]).length : Nat) : Int), v2, ⟨none, 0, []⟩, 0⟩ : Nd)) (by simpa using h.1) h.2.2.2.2.2.1) ?_
                      refine At.skim 2 rfl rfl ?_
                      refine At.nil ?_
                      refine At.then ?_
                      refine At.ret ?_
                      exact At.results (Γr := [_]) (M := [planBox t b a6 (((o ++ [(⟨true, x.key, 0, 0, ⟨none, 0, []⟩, 0⟩ : Nd)]) ++ q1) ++ q2).length c6 a2 c2 bad2, _, M8]) rfl (RVals.cons (RVal.tmp rfl) RVals.nil) (.tail _ (.tail _ (.tail _ (.tail _ (.tail _ (.tail _ (.tail _ (.tail _ (.head _))))))))) (fun _ h => ⟨h.1, trivial⟩) (.cons_cons _ (.cons_cons _ (.cons_cons _ (.cons _ (.cons _ (.refl _)))))) (NodeEnd.node (sh_right hxp hmet hroute hgood hsl) hxg hroute ⟨hpl, hps⟩ hq1 hO8 rfl hc1 hlen5 hb9 rfl hs9 hn9)
                · skip
                  have hgood : routeOk x.p k = true := rgood (show x.ps.l.length = 0 by omega) (show x.stat = 0 by omega) (fun h => by rw [hl1] at h; have := of_decide_eq_true h; show k.least < x.key; omega) (fun h => by rw [hl2] at h; have := of_decide_eq_true h; show x.key < k.most; omega)
                  obtain ⟨hpl, hps⟩ := route_pure hgood
                  refine AtO.shut rfl rfl rfl rfl (Calm.then (Calm.then Post.calm)) ?_
                  refine AtO.shut rfl rfl rfl rfl (Calm.then (Calm.then Post.calm)) ?_
                  refine AtO.shut rfl rfl rfl rfl (Calm.then (Calm.then Post.calm)) ?_
                  refine AtO.shut rfl rfl rfl rfl (Calm.then (Calm.then Post.calm)) ?_
                  refine AtO.shut rfl rfl rfl rfl (Calm.then (Calm.then Post.calm)) ?_
                  refine AtO.done ?_
                  refine At.skim 3 rfl rfl ?_
                  refine At.nil ?_
                  refine At.then ?_
                  refine At.condF rfl ?_
                  refine At.skip ?_
                  refine At.then ?_
                  refine At.seq ?_
                  refine At.draw 10 (.q 0 (.q 1 (.q 2 (.q 3 (.q 4 (.q 5 (.q 6 (.q 7 (.o 8 (.o 9 (.e))))))))))) (_ :: _ :: L₀) (.cons_cons _ (.cons_cons _ (.cons _ (.cons _ (.refl _))))) mixed (by kernel_rfl) rfl ?_
                  refine AtO.quiet rfl (q_move rfl) rfl (Calm.then Post.calm) ?_
                  refine AtO.quiet rfl (q_move rfl) rfl (Calm.then Post.calm) ?_
                  refine AtO.quiet rfl (q_nilCheck rfl) rfl (Calm.then Post.calm) ?_
                  refine AtO.quiet rfl (q_fieldAddr s109 rfl rfl rfl) rfl (Calm.then Post.calm) ?_
                  refine AtO.quiet rfl (q_load t22 rfl (Rd.loc (i := 1) rfl rfl)) rfl (Calm.then Post.calm) ?_
                  refine AtO.quiet rfl (q_fieldAddr s33 rfl rfl rfl) rfl (Calm.then Post.calm) ?_
                  refine AtO.quiet rfl (q_load t3 rfl (Rd.loc (i := 0) rfl rfl)) rfl (Calm.then Post.calm) ?_
                  refine AtO.quiet rfl (q_build t33 s33 rfl rfl) rfl (Calm.then Post.calm) ?_
                  refine AtO.loud rfl (l_buildSlice Try.underlying22 t33 rfl rfl rfl rfl rfl) rfl (by rintro _ _ _ ⟨_, rfl, rfl, rfl⟩; exact ⟨fun _ h => h, .cons _ (.cons_cons _ (.cons_cons _ (.cons _ (.cons _ (.refl _)))))⟩) ?_
                  rintro _ _ _ ⟨b16, rfl, rfl, rfl⟩
                  refine AtO.loudA rfl (l_append rfl Try.underlying22 t33 rfl rfl hO (by simp) (i := 3) rfl rfl (news := [rowN (⟨true, x.key, 0, 0, ⟨none, 0, []⟩, 0⟩ : Nd)]) (by simp [rowN]) (RdS.loc (i := 0) rfl (m := 6) rfl) rfl rfl rfl (by omega) (by unfold maxLen; omega)) rfl (by rintro _ _ _ ⟨_, _, _, rfl, _, rfl, rfl⟩; exact ⟨fun _ h => h, (.cons _ (.cons_cons _ (.cons_cons _ (.cons _ (.cons _ (.refl _))))))⟩) ?_
                  rintro _ _ _ ⟨a4, c4, M4, rfl, ow4, rfl, rfl⟩
                  refine AtO.done ?_
                  refine At.skim 1 rfl rfl ?_
                  refine At.quiet (q_fieldAddr s109 rfl rfl rfl) rfl ?_
                  refine At.say 202 (.slice a4 (o ++ [(⟨true, x.key, 0, 0, ⟨none, 0, []⟩, 0⟩ : Nd)]).length c4) rfl (by simp) ?_
                  refine At.loudN (l_store t22 rfl rfl (i := 2) rfl rfl rfl rfl) ?_
                  rintro _ _ _ ⟨rfl, rfl⟩
                  refine At.nil ?_
                  refine At.then ?_
                  refine At.seq ?_
                  refine At.region ?_
                  have hO4 : Own 33 6 ((o ++ [(⟨true, x.key, 0, 0, ⟨none, 0, []⟩, 0⟩ : Nd)]).map rowN) a4 c4 M4 := by simpa using ow4
                  refine At.know (prsP ⟨none, 0, []⟩) (fun _ h => sl_nil _ _ _ (Nat.zero_le _)) ?_
                  refine At.know (psP (o ++ [(⟨true, x.key, 0, 0, ⟨none, 0, []⟩, 0⟩ : Nd)])) (fun _ h => psP_snoc (n := (⟨true, x.key, 0, 0, ⟨none, 0, []⟩, 0⟩ : Nd)) h.2.2.2.2.2.2.2.1 h.1) ?_
                  refine At.skim 1 rfl rfl ?_
                  refine At.fld s33 t3 rfl rfl rfl (Rd.loc (i := 1) rfl rfl) rfl rfl ?_
                  refine At.skim 1 rfl rfl ?_
                  refine At.fld s33 t3 rfl rfl rfl (Rd.loc (i := 1) rfl rfl) rfl rfl ?_
                  refine At.loud (l_buildSlice Try.underlying37 t3 rfl rfl rfl rfl rfl) rfl ?_
                  rintro _ _ _ ⟨b17, rfl, rfl, rfl⟩
                  refine At.freeze 0 (φ := intsP ⟨some ⟨b17, 0, none⟩, 1, [x.key]⟩) rfl (fun _ h => sl_of_block h rfl (by simp [rowI]) rfl (show (1 : Nat) ≤ maxLen from by decide)) ?_
                  refine At.front 4 rfl ?_
                  refine At.front 4 rfl ?_
                  refine At.front 4 rfl ?_
                  refine At.call en77 rfl (ih (i :: met) x.left (k.lefts x.key) lw ⟨_, _, [x.key]⟩ b (o ++ [(⟨true, x.key, 0, 0, ⟨none, 0, []⟩, 0⟩ : Nd)]) a4 c4 M4 a2 c2 _ (by omega) hO4 hS2 (by simp; omega) hlo rfl) (fun _ h => ⟨h.2.2.2.2.2.1, h.2.2.2.2.2.2.1, h.2.2.2.2.2.2.2.1, h.1, h.2.1, trivial⟩) (List.Perm.refl _) rfl ?_
                  rintro _ _ _ ⟨q1, a5, c5, M5, M6, bad1, v1, rfl, rfl, rfl, hO5, hb5, hs5, hn5⟩
                  refine At.skim 1 rfl rfl ?_
                  refine At.nil ?_
                  refine At.then ?_
                  refine At.seq ?_
                  refine At.region ?_
                  rcases hsl : shape t.p.ns f (i :: met) x.left (k.lefts x.key) with _ | sl
                  · skip
                    have hb1 : bad1 = true := hn5 hsl
                    subst hb1
                    have hO6 : Own 33 6 ((o ++ (⟨true, x.key, 0, 0, ⟨none, 0, []⟩, 0⟩ : Nd) :: q1).map rowN) a5 c5 M5 := by simpa using hO5
                    have hno := sh_left hxp hroute hgood hsl
                    refine At.skim 1 rfl rfl ?_
                    refine At.fld s33 t3 rfl rfl rfl (Rd.loc (i := 4) rfl rfl) rfl rfl ?_
                    refine At.fld s33 t3 rfl rfl rfl (Rd.loc (i := 4) rfl rfl) rfl rfl ?_
                    refine At.loud (l_buildSlice Try.underlying37 t3 rfl rfl rfl rfl rfl) rfl ?_
                    rintro _ _ _ ⟨b18, rfl, rfl, rfl⟩
                    refine At.skim 1 rfl rfl ?_
                    refine At.front 1 rfl ?_
                    refine At.call en77 rfl (node77b t b x.right _ _ _ _) (fun _ _ => trivial) (List.Perm.refl _) rfl ?_
                    rintro _ _ _ ⟨rfl, rfl, rfl⟩
                    refine At.skim 1 rfl rfl ?_
                    refine At.nil ?_
                    refine At.then ?_
                    refine At.seq ?_
                    refine At.draw 15 (.q 0 (.q 1 (.q 2 (.q 3 (.q 4 (.q 5 (.q 6 (.q 7 (.q 8 (.q 9 (.q 10 (.q 11 (.q 12 (.q 13 (.o 14 (.e)))))))))))))))) (_ :: _ :: _ :: _ :: L₀) (.cons_cons _ (.cons_cons _ (.cons _ (.cons _ (.cons_cons _ (.cons_cons _ (.refl _))))))) mixed (by kernel_rfl) rfl ?_
                    refine AtO.quiet rfl (q_move rfl) rfl (Calm.then Post.calm) ?_
                    refine AtO.quiet rfl (q_nilCheck rfl) rfl (Calm.then Post.calm) ?_
                    refine AtO.quiet rfl (q_fieldAddr s109 rfl rfl rfl) rfl (Calm.then Post.calm) ?_
                    refine AtO.quiet rfl (q_load t22 rfl (Rd.loc (i := 0) rfl rfl)) rfl (Calm.then Post.calm) ?_
                    refine AtO.quiet rfl (q_move rfl) rfl (Calm.then Post.calm) ?_
                    refine AtO.quiet rfl (q_move rfl) rfl (Calm.then Post.calm) ?_
                    refine AtO.quiet rfl (q_nilCheck rfl) rfl (Calm.then Post.calm) ?_
                    refine AtO.quiet rfl (q_fieldAddr s109 rfl rfl rfl) rfl (Calm.then Post.calm) ?_
                    refine AtO.quiet rfl (q_load t22 rfl (Rd.loc (i := 0) rfl rfl)) rfl (Calm.then Post.calm) ?_
                    refine AtO.quiet rfl (q_move rfl) rfl (Calm.then Post.calm) ?_
                    refine AtO.quiet rfl (q_move rfl) rfl (Calm.then Post.calm) ?_
                    refine AtO.quiet rfl (q_move rfl) rfl (Calm.then Post.calm) ?_
                    refine AtO.quiet rfl (q_indexOwn Try.underlying22 t33 rfl hO6 (by simp) rfl rfl (by simp)) rfl (Calm.then Post.calm) ?_
                    refine AtO.quiet rfl (q_fieldAddr s33 rfl rfl rfl) rfl (Calm.then Post.calm) ?_
                    refine AtO.loudNA rfl (l_storeOwn t3 rfl rfl hO6 (i := 2) rfl (get_mid o q1 _) rfl rfl rfl) (by rintro _ _ _ ⟨_, _, rfl, rfl⟩; exact ⟨fun _ h => h, (.cons_cons _ (.cons_cons _ (.cons _ (.cons _ (.cons_cons _ (.cons_cons _ (.refl _)))))))⟩) ?_
                    rintro _ _ _ ⟨Mow24, ow24, rfl, rfl⟩
                    refine AtO.done ?_
                    refine At.quiet (q_indexOwn Try.underlying22 t33 rfl hO6 (by simp) rfl rfl (by simp)) rfl ?_
                    refine At.quiet (q_fieldAddr s33 rfl rfl rfl) rfl ?_
                    refine At.loudN (l_storeOwn t3 rfl rfl (show Own 33 6 ((o ++ (⟨true, x.key, v1, 0, ⟨none, 0, []⟩, 0⟩ : Nd) :: q1).map rowN) a5 c5 _ by rw [← set_mid o q1 (⟨true, x.key, 0, 0, ⟨none, 0, []⟩, 0⟩ : Nd)]; exact ow24) (i := 2) rfl (get_mid o q1 (⟨true, x.key, v1, 0, ⟨none, 0, []⟩, 0⟩ : Nd)) rfl rfl rfl) ?_
                    rintro _ _ _ ⟨Mow25, ow25, rfl, rfl⟩
                    refine At.nil ?_
                    refine At.then ?_
                    refine At.seq ?_
                    refine At.region ?_
                    have hO8 : Own 33 6 ((o ++ (⟨true, x.key, v1, 0, ⟨none, 0, []⟩, 0⟩ : Nd) :: q1).map rowN) a5 c5 Mow25 := by rw [← set_mid o q1 (⟨true, x.key, v1, 0, ⟨none, 0, []⟩, 0⟩ : Nd)]; exact ow25
                    refine At.know (psP (o ++ (⟨true, x.key, v1, 0, ⟨none, 0, []⟩, 0⟩ : Nd) :: q1)) (fun _ h => psP_mid (n := (⟨true, x.key, 0, 0, ⟨none, 0, []⟩, 0⟩ : Nd)) (m := (⟨true, x.key, v1, 0, ⟨none, 0, []⟩, 0⟩ : Nd)) (by simpa using h.1) h.2.2.2.1) ?_
                    refine At.skim 2 rfl rfl ?_
                    refine At.nil ?_
                    refine At.then ?_
                    refine At.ret ?_
                    exact At.results (Γr := [_]) (M := [planBox t b a5 ((o ++ [(⟨true, x.key, 0, 0, ⟨none, 0, []⟩, 0⟩ : Nd)]) ++ q1).length c5 a2 c2 true, _, _]) rfl (RVals.cons (RVal.tmp rfl) RVals.nil) (.tail _ (.tail _ (.tail _ (.tail _ (.tail _ (.tail _ (.head _))))))) (fun _ h => ⟨h.1, trivial⟩) (.cons_cons _ (.cons _ (.cons_cons _ (.cons_cons _ (.cons _ (.cons _ (.refl _))))))) (NodeEnd.left (q := (⟨true, x.key, v1, 0, ⟨none, 0, []⟩, 0⟩ : Nd) :: q1) hno hO8 (by simp) (by have := hcs.1; simp at hb5 ⊢; omega))
                  · skip
                    obtain ⟨rfl, rfl, hq1, hS5, hlen5⟩ := hs5 sl hsl
                    have hcm := count_more t.ns.l.length sl.places (i :: met)
                    have hc1 := hcs.1
                    refine At.skim 1 rfl rfl ?_
                    refine At.fld s33 t3 rfl rfl rfl (Rd.loc (i := 4) rfl rfl) rfl rfl ?_
                    refine At.fld s33 t3 rfl rfl rfl (Rd.loc (i := 4) rfl rfl) rfl rfl ?_
                    refine At.loud (l_buildSlice Try.underlying37 t3 rfl rfl rfl rfl rfl) rfl ?_
                    rintro _ _ _ ⟨b19, rfl, rfl, rfl⟩
                    refine At.skim 1 rfl rfl ?_
                    refine At.freeze 0 (φ := intsP ⟨some ⟨b19, 0, none⟩, 1, [x.key]⟩) rfl (fun _ h => sl_of_block h rfl (by simp [rowI]) rfl (show (1 : Nat) ≤ maxLen from by decide)) ?_
                    refine At.front 2 rfl ?_
                    refine At.front 2 rfl ?_
                    refine At.front 2 rfl ?_
                    refine At.call en77 rfl (ih (sl.places ++ i :: met) x.right (k.rights x.key) ⟨_, _, [x.key]⟩ hw b ((o ++ [(⟨true, x.key, 0, 0, ⟨none, 0, []⟩, 0⟩ : Nd)]) ++ q1) a5 c5 M5 a2 c2 M6 (by omega) hO5 hS5 (by have h1 := hlen5; simp only [List.length_append, List.length_singleton] at h1 ⊢; omega) rfl hhi) (fun _ h => ⟨h.2.2.2.2.2.2.2.1, h.2.2.2.2.2.2.2.2.1, h.1, h.2.2.2.2.2.2.2.2.2.2.1, h.2.1, trivial⟩) (List.Perm.refl _) rfl ?_
                    rintro _ _ _ ⟨q2, a6, c6, M7, M8, bad2, v2, rfl, rfl, rfl, hO9, hb9, hs9, hn9⟩
                    refine At.skim 1 rfl rfl ?_
                    refine At.nil ?_
                    refine At.then ?_
                    refine At.seq ?_
                    have hO6 : Own 33 6 ((o ++ (⟨true, x.key, 0, 0, ⟨none, 0, []⟩, 0⟩ : Nd) :: (q1 ++ q2)).map rowN) a6 c6 M7 := by simpa using hO9
                    refine At.draw 15 (.q 0 (.q 1 (.q 2 (.q 3 (.q 4 (.q 5 (.q 6 (.q 7 (.q 8 (.q 9 (.q 10 (.q 11 (.q 12 (.q 13 (.o 14 (.e)))))))))))))))) (_ :: _ :: _ :: L₀) (.cons_cons _ (.cons _ (.cons _ (.cons_cons _ (.cons_cons _ (.refl _)))))) mixed (by kernel_rfl) rfl ?_
                    refine AtO.quiet rfl (q_move rfl) rfl (Calm.then Post.calm) ?_
                    refine AtO.quiet rfl (q_nilCheck rfl) rfl (Calm.then Post.calm) ?_
                    refine AtO.quiet rfl (q_fieldAddr s109 rfl rfl rfl) rfl (Calm.then Post.calm) ?_
                    refine AtO.quiet rfl (q_load t22 rfl (Rd.loc (i := 0) rfl rfl)) rfl (Calm.then Post.calm) ?_
                    refine AtO.quiet rfl (q_move rfl) rfl (Calm.then Post.calm) ?_
                    refine AtO.quiet rfl (q_move rfl) rfl (Calm.then Post.calm) ?_
                    refine AtO.quiet rfl (q_nilCheck rfl) rfl (Calm.then Post.calm) ?_
                    refine AtO.quiet rfl (q_fieldAddr s109 rfl rfl rfl) rfl (Calm.then Post.calm) ?_
                    refine AtO.quiet rfl (q_load t22 rfl (Rd.loc (i := 0) rfl rfl)) rfl (Calm.then Post.calm) ?_
                    refine AtO.quiet rfl (q_move rfl) rfl (Calm.then Post.calm) ?_
                    refine AtO.quiet rfl (q_move rfl) rfl (Calm.then Post.calm) ?_
                    refine AtO.quiet rfl (q_move rfl) rfl (Calm.then Post.calm) ?_
                    refine AtO.quiet rfl (q_indexOwn Try.underlying22 t33 rfl hO6 (by simp) rfl rfl (by simp)) rfl (Calm.then Post.calm) ?_
                    refine AtO.quiet rfl (q_fieldAddr s33 rfl rfl rfl) rfl (Calm.then Post.calm) ?_
                    refine AtO.loudNA rfl (l_storeOwn t3 rfl rfl hO6 (i := 1) rfl (get_mid o (q1 ++ q2) _) rfl rfl rfl) (by rintro _ _ _ ⟨_, _, rfl, rfl⟩; exact ⟨fun _ h => h, (.cons_cons _ (.cons _ (.cons _ (.cons_cons _ (.cons_cons _ (.refl _))))))⟩) ?_
                    rintro _ _ _ ⟨Mow26, ow26, rfl, rfl⟩
                    refine AtO.done ?_
                    refine At.quiet (q_indexOwn Try.underlying22 t33 rfl hO6 (by simp) rfl rfl (by simp)) rfl ?_
                    refine At.quiet (q_fieldAddr s33 rfl rfl rfl) rfl ?_
                    refine At.loudN (l_storeOwn t3 rfl rfl (show Own 33 6 ((o ++ (⟨true, x.key, (((o ++ [(⟨true, x.key, 0, 0, ⟨none, 0, []⟩, 0⟩ : Nd)]).length : Nat) : Int), 0, ⟨none, 0, []⟩, 0⟩ : Nd) :: (q1 ++ q2)).map rowN) a6 c6 _ by rw [← set_mid o (q1 ++ q2) (⟨true, x.key, 0, 0, ⟨none, 0, []⟩, 0⟩ : Nd)]; exact ow26) (i := 1) rfl (get_mid o (q1 ++ q2) (⟨true, x.key, (((o ++ [(⟨true, x.key, 0, 0, ⟨none, 0, []⟩, 0⟩ : Nd)]).length : Nat) : Int), 0, ⟨none, 0, []⟩, 0⟩ : Nd)) rfl rfl rfl) ?_
                    rintro _ _ _ ⟨Mow27, ow27, rfl, rfl⟩
                    refine At.nil ?_
                    refine At.then ?_
                    refine At.seq ?_
                    refine At.region ?_
                    have hO8 : Own 33 6 ((o ++ (⟨true, x.key, (((o ++ [(⟨true, x.key, 0, 0, ⟨none, 0, []⟩, 0⟩ : Nd)]).length : Nat) : Int), v2, ⟨none, 0, []⟩, 0⟩ : Nd) :: (q1 ++ q2)).map rowN) a6 c6 Mow27 := by rw [← set_mid o (q1 ++ q2) (⟨true, x.key, (((o ++ [(⟨true, x.key, 0, 0, ⟨none, 0, []⟩, 0⟩ : Nd)]).length : Nat) : Int), 0, ⟨none, 0, []⟩, 0⟩ : Nd)]; exact ow27
                    refine At.know (psP (o ++ (⟨true, x.key, (((o ++ [(⟨true, x.key, 0, 0, ⟨none, 0, []⟩, 0⟩ : Nd)]).length : Nat) : Int), v2, ⟨none, 0, []⟩, 0⟩ : Nd) :: (q1 ++ q2))) (fun _ h => psP_mid (n := (⟨true, x.key, 0, 0, ⟨none, 0, []⟩, 0⟩ : Nd)) (m := (⟨true, x.key, (((o ++ [(⟨true, x.key, 0, 0, ⟨none, 0, []⟩, 0⟩ : Nd)]).length : Nat) : Int), v2, ⟨none, 0, []⟩, 0⟩ : Nd)) (by simpa using h.1) h.2.2.2.2.2.1) ?_
                    refine At.skim 2 rfl rfl ?_
                    refine At.nil ?_
                    refine At.then ?_
                    refine At.ret ?_
                    exact At.results (Γr := [_]) (M := [planBox t b a6 (((o ++ [(⟨true, x.key, 0, 0, ⟨none, 0, []⟩, 0⟩ : Nd)]) ++ q1) ++ q2).length c6 a2 c2 bad2, _, M8]) rfl (RVals.cons (RVal.tmp rfl) RVals.nil) (.tail _ (.tail _ (.tail _ (.tail _ (.tail _ (.tail _ (.tail _ (.tail _ (.head _))))))))) (fun _ h => ⟨h.1, trivial⟩) (.cons_cons _ (.cons_cons _ (.cons_cons _ (.cons _ (.cons _ (.refl _)))))) (NodeEnd.node (sh_right hxp hmet hroute hgood hsl) hxg hroute ⟨hpl, hps⟩ hq1 hO8 rfl hc1 hlen5 hb9 rfl hs9 hn9)

end Go.Proofs.Ytmkodknmknfdkaa
