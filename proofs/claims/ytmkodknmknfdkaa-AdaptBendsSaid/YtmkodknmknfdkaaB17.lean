/- The walk of AdaptBack. -/
import Derived.Test.YtmkodknmknfdkaaB16
import Derived.Test.YtmkodknmknfdkaaP18
set_option linter.unusedVariables false
set_option linter.unusedSimpArgs false
namespace Go.Proofs.Ytmkodknmknfdkaa
open E
set_option maxRecDepth 4000



set_option maxHeartbeats 2000000 in
theorem back12 (t : Tr) (hz : ∀ n ∈ t.ns.l, n.ps.l.length ≤ 8796093022208) (at_ : Int) : Con Try.prog 12 [t.val, .int .i64 at_] [ndsP t.ns, psP t.ns.l] [] (fun v Γ M => v = .bool true ∧ Γ = [] ∧ M = []) := by
  refine Con.body 143 Try.func12 rfl Try.ntmps12 rfl fun X H₀ L₀ => ?_
  refine At.seq ?_
  refine At.region ?_
  refine At.loud (l_box rfl) rfl ?_
  rintro _ _ _ ⟨b1, rfl, rfl, rfl⟩
  refine At.skim 1 rfl rfl ?_
  refine At.nil ?_
  refine At.then ?_
  refine At.seq ?_
  refine At.seq ?_
  refine At.region ?_
  refine At.quiet (q_loadS t24 rfl (RdS.loc (i := 0) rfl (m := 2) rfl) rfl) rfl ?_
  refine At.call en20 rfl (light20 _ (by assumption)) (fun _ h => ⟨h.2.1, trivial⟩) (List.Perm.refl _) rfl ?_
  rintro _ _ _ ⟨rfl, rfl, rfl⟩
  refine At.skim 2 rfl rfl ?_
  refine At.splitP (d := 22) rfl (fun hlg => ?_) (fun hlg => ?_)
  · skip
    refine At.skim 4 rfl rfl ?_
    refine At.nil ?_
    refine At.then ?_
    refine At.condT rfl ?_
    refine At.seq ?_
    refine At.region ?_
    refine At.call en45 rfl (awake45) (fun _ _ => trivial) (List.Perm.refl _) rfl ?_
    rintro _ _ _ ⟨rfl, rfl, rfl⟩
    refine At.skim 1 rfl rfl ?_
    refine At.nil ?_
    refine At.then ?_
    refine At.ret ?_
    refine At.thenRet ?_
    exact At.results (Γr := []) (M := []) rfl (RVals.cons (RVal.tmp rfl) RVals.nil) (.head _) (fun _ _ => trivial) (.cons _ (.refl _)) ⟨rfl, rfl, rfl⟩
  · skip
    have hli : lightT t.p = true := light_yes hlg
    obtain ⟨h450, hsm, hp2000⟩ := small_of_light hli
    have hN : t.p.ns.length = t.ns.l.length := by simp [Tr.p]
    refine At.open rfl rfl ?_
    refine At.quiet (q_loadS t24 rfl (RdS.loc (i := 0) rfl (m := 2) rfl) rfl) rfl ?_
    refine At.open rfl rfl ?_
    refine At.call en21 rfl (may21 _) (fun _ h => ⟨h.2.1, h.2.2.1, trivial⟩) (List.Perm.refl _) rfl ?_
    rintro _ _ _ ⟨rfl, rfl, rfl⟩
    refine At.skim 2 rfl rfl ?_
    refine At.nil ?_
    refine At.then ?_
    refine At.cond rfl (fun hmy => ?_) (fun hmy => ?_)
    · skip
      refine At.seq ?_
      refine At.region ?_
      refine At.call en45 rfl (awake45) (fun _ _ => trivial) (List.Perm.refl _) rfl ?_
      rintro _ _ _ ⟨rfl, rfl, rfl⟩
      refine At.skim 1 rfl rfl ?_
      refine At.nil ?_
      refine At.then ?_
      refine At.ret ?_
      refine At.thenRet ?_
      exact At.results (Γr := []) (M := []) rfl (RVals.cons (RVal.tmp rfl) RVals.nil) (.head _) (fun _ _ => trivial) (.cons _ (.refl _)) ⟨rfl, rfl, rfl⟩
    · skip
      refine At.skip ?_
      refine At.then ?_
      refine At.seq ?_
      refine At.region ?_
      obtain ⟨s0, hs0⟩ := Option.isSome_iff_exists.1 (not_f hmy)
      have hall := all_len hs0 hp2000
      have hhalf := leaves_half s0
      have hsz0 := (good_of hs0).size
      have hle0 : (leavesT t.p).length ≤ 300 := by rw [leavesT_eq hs0]; omega
      refine At.quiet (q_loadS t24 rfl (RdS.loc (i := 0) rfl (m := 2) rfl) rfl) rfl ?_
      refine At.call en28 rfl (leaves28f _) (fun _ h => ⟨h.2.1, h.2.2.1, trivial⟩) (List.Perm.refl _) rfl ?_
      rintro _ _ _ ⟨lv, rfl, rfl, rfl, hplv⟩
      refine At.skim 1 rfl rfl ?_
      refine At.nil ?_
      refine At.then ?_
      refine At.seq ?_
      refine At.seq ?_
      refine At.region ?_
      have hlp0 := leavesT_pos hs0
      have hll : lv.l.length = (leavesT t.p).length := by rw [hplv, toI_length]
      refine At.skim 1 rfl rfl ?_
      refine At.quiet (q_len Try.underlying37 rfl) rfl ?_
      refine At.skim 1 rfl rfl ?_
      refine At.nil ?_
      refine At.then ?_
      refine At.say 32 (.bool false) rfl (congrArg Value.bool (decide_eq_false (by omega))) ?_
      refine At.condF rfl ?_
      refine At.skip ?_
      refine At.then ?_
      refine At.seq ?_
      refine At.region ?_
      obtain ⟨j, hj, hje, hjne⟩ := pick (a := at_) (n := lv.l.length) (by omega) (by omega)
      obtain ⟨i, hi⟩ := get_of_lt (l := leavesT t.p) (i := j) (by omega)
      have hui : lv.l[j]? = some (i : Int) := by rw [hplv]; exact toI_get hi
      have hmem := List.mem_of_getElem? hi
      have hilt := leavesT_lt hmem
      obtain ⟨x, hx⟩ := get_of_lt (l := t.ns.l) (i := i) (by omega)
      have hxp : t.p.ns[i]? = some x.p := map_get hx
      refine At.skim 2 rfl rfl ?_
      refine At.quiet (q_convInt Try.underlying3 Try.underlying29 rfl) rfl ?_
      refine At.skim 1 rfl rfl ?_
      refine At.quiet (q_len Try.underlying37 rfl) rfl ?_
      refine At.quiet (q_convInt Try.underlying3 Try.underlying29 rfl) rfl ?_
      refine At.quiet (q_rem rfl rfl (by omega)) rfl ?_
      refine At.quiet (q_convInt Try.underlying29 Try.underlying3 rfl) rfl ?_
      refine At.say 40 (.int .i64 (j : Int)) rfl (congrArg (Value.int .i64) hje) ?_
      refine At.quiet (q_index Try.underlying37 t3 rfl (.head _) (by simp) rfl rfl (lt_of_get hui)) rfl ?_
      refine At.quiet (q_load t3 rfl (Rd.sl0 (.head _) (map_get hui) rfl)) rfl ?_
      refine At.skim 1 rfl rfl ?_
      refine At.nil ?_
      refine At.then ?_
      refine At.seq ?_
      refine At.seq ?_
      refine At.region ?_
      refine At.quiet (q_loadS t24 rfl (RdS.loc (i := 0) rfl (m := 2) rfl) rfl) rfl ?_
      refine At.skim 1 rfl rfl ?_
      refine At.call en47 rfl (split47 _ (by assumption) _) (fun _ h => ⟨h.2.2.1, h.2.2.2.1, trivial⟩) (List.Perm.refl _) rfl ?_
      rintro _ _ _ ⟨u, rfl, rfl, rfl, hpu⟩
      refine At.skim 1 rfl rfl ?_
      refine At.quiet (q_extract rfl rfl) rfl ?_
      refine At.quiet (q_extract rfl rfl) rfl ?_
      refine At.loud (l_alloc t24) rfl ?_
      rintro _ _ _ ⟨b2, rfl, rfl, rfl⟩
      refine At.loudN (l_store t24 rfl rfl (i := 0) rfl rfl rfl rfl) ?_
      rintro _ _ _ ⟨rfl, rfl⟩
      refine At.skim 1 rfl rfl ?_
      refine At.nil ?_
      refine At.then ?_
      refine At.seq ?_
      refine At.region ?_
      refine At.skim 2 rfl rfl ?_
      refine At.split (d := 50) rfl (fun hok => ?_) (fun hok => ?_)
      · skip
        refine At.skim 4 rfl rfl ?_
        refine At.say 54 (.bool true) rfl (congrArg Value.bool (decide_eq_true (by omega))) ?_
        refine At.skim 1 rfl rfl ?_
        refine At.open rfl rfl ?_
        refine At.quiet (q_fieldAddr s24 rfl rfl rfl) rfl ?_
        refine At.open rfl rfl ?_
        refine At.quiet (q_load t22 rfl (Rd.loc (i := 1) rfl rfl)) rfl ?_
        refine At.open rfl rfl ?_
        refine At.quiet (q_len Try.underlying22 rfl) rfl ?_
        refine At.skim 2 rfl rfl ?_
        refine At.nil ?_
        refine At.then ?_
        refine At.say 60 (.bool true) rfl (congrArg Value.bool (decide_eq_true (by omega))) ?_
        refine At.condT rfl ?_
        refine At.know (prsP x.ps) (fun _ h => psP_get h.2.2.2.2.2.1 hx) ?_
        refine At.seq ?_
        refine At.region ?_
        refine At.fld s24 t22 rfl rfl rfl (Rd.loc (i := 1) rfl rfl) rfl rfl ?_
        refine At.skim 1 rfl rfl ?_
        refine At.quiet (q_index Try.underlying22 t33 rfl (.tail _ (.tail _ (.tail _ (.tail _ (.tail _ (.head _)))))) (by simp) rfl rfl (lt_of_get hx)) rfl ?_
        refine At.fld s33 t31 rfl rfl rfl (Rd.sl (.tail _ (.tail _ (.tail _ (.tail _ (.tail _ (.head _)))))) (map_get hx) rfl) rfl rfl ?_
        obtain ⟨w0, hw0⟩ := Option.isSome_iff_exists.1 hok
        obtain ⟨_, i9, n9, _, e9, _, hn9, _, h29, _⟩ := split_yes hw0
        obtain rfl : i = i9 := by omega
        have hx2 : 2 ≤ x.ps.l.length := by rw [hxp] at hn9; cases hn9; exact h29
        obtain ⟨y, hy⟩ := get_of_lt (l := x.ps.l) (i := 0) (by omega)
        obtain ⟨hb1, hb2, hb3⟩ := back_tr hpu hok hxp hy
        obtain ⟨k1, k2, k3, k4⟩ := split_opt hpu hok
        have hus : smallP u.ns.l := small_all k1 (by rw [k3]; exact hall) (by omega)
        have hxs := hsm x (List.mem_of_getElem? hx)
        refine At.skim 1 rfl rfl ?_
        refine At.nil ?_
        refine At.then ?_
        refine At.cutD (ι := Nat × Sl Int × Sl Bool) .z [9, 10, 67, 68, 69, 70, 71, 72, 73, 74, 75] (fun ⟨b9, us, rs⟩ => [(9, .pointer (some ⟨b9, 0, none⟩)), (10, .bool (mayT u.p).isSome)]) (fun ⟨b9, us, rs⟩ => []) (fun ⟨b9, us, rs⟩ => [[(b9, .cells #[.int .i64 ((findD u.p y.k).leaf : Int), us.val, rs.val] 40 (0, 0))]]) (fun ⟨b9, us, rs⟩ => True) ?_ ?_
        · skip
          refine At.draw 11 (.q 0 (.q 1 (.q 2 (.q 3 (.q 4 (.t 5 (.q 6 (.q 7 (.q 8 (.o 9 (.o 10 (.e)))))) 9 (.o 5 (.q 6 (.q 7 (.q 8 (.o 10 (.e)))))))))))) _ (List.Sublist.refl _) mixed (by kernel_rfl) rfl ?_
          refine AtO.quiet rfl (q_loadS t24 rfl (RdS.loc (i := 0) rfl (m := 2) rfl) rfl) rfl (Calm.then (Calm.then Post.calm)) ?_
          refine AtO.quiet rfl (q_move rfl) rfl (Calm.then (Calm.then Post.calm)) ?_
          refine AtO.quiet rfl (q_index Try.underlying31 t50 rfl (.head _) (by simp) rfl rfl (lt_of_get hy)) rfl (Calm.then (Calm.then Post.calm)) ?_
          refine AtO.quiet rfl (q_fieldAddr s50 rfl rfl rfl) rfl (Calm.then (Calm.then Post.calm)) ?_
          refine AtO.quiet rfl (q_load t3 rfl (Rd.sl (.head _) (map_get hy) rfl)) rfl (Calm.then (Calm.then Post.calm)) ?_
          refine AtO.two ?_ ?_
          · skip
            refine AtO.call rfl en26 rfl (find26 u y.k) (fun _ h => ⟨h.2.1, h.2.2.1, trivial⟩) (List.Perm.refl _) rfl (.refl _) ?_
            rintro _ _ _ ⟨us1, rs1, rfl, rfl, rfl, hus1, hrs1⟩
            refine AtO.quiet rfl (q_move rfl) rfl (Calm.then (Calm.then Post.calm)) ?_
            refine AtO.quiet rfl (q_extract rfl rfl) rfl (Calm.then (Calm.then Post.calm)) ?_
            refine AtO.quiet rfl (q_extract rfl rfl) rfl (Calm.then (Calm.then Post.calm)) ?_
            refine AtO.loud rfl (l_alloc t40) rfl (by rintro _ _ _ ⟨_, rfl, rfl, rfl⟩; exact ⟨fun _ h => h, .cons _ (.refl _)⟩) ?_
            rintro _ _ _ ⟨b3, rfl, rfl, rfl⟩
            refine AtO.loudNA rfl (l_store t40 rfl rfl (i := 0) rfl rfl rfl rfl) (by rintro _ _ _ ⟨rfl, rfl⟩; exact ⟨fun _ h => h, (.cons _ (.cons_cons _ (.cons_cons _ (.refl _))))⟩) ?_
            rintro _ _ _ ⟨rfl, rfl⟩
            refine AtO.done ?_
            refine At.skim 1 rfl rfl ?_
            refine At.nil ?_
            refine At.then ?_
            exact At.meetK (b3, us1, rs1) trivial (Tells.meet 11 ⟨rfl, rfl, trivial⟩ rfl rfl) (fun _ h => h.2.2) (.cons_cons _ (.refl _))
          · skip
            refine AtO.loud rfl (l_alloc t40) rfl (by rintro _ _ _ ⟨_, rfl, rfl, rfl⟩; exact ⟨fun _ h => h, .cons _ (.refl _)⟩) ?_
            rintro _ _ _ ⟨b4, rfl, rfl, rfl⟩
            refine AtO.call rfl en26 rfl (find26 u y.k) (fun _ h => ⟨h.2.1, h.2.2.1, trivial⟩) (List.Perm.refl _) rfl (.cons _ (.cons_cons _ (.cons_cons _ (.refl _)))) ?_
            rintro _ _ _ ⟨us1, rs1, rfl, rfl, rfl, hus1, hrs1⟩
            refine AtO.quiet rfl (q_move rfl) rfl (Calm.then (Calm.then Post.calm)) ?_
            refine AtO.quiet rfl (q_extract rfl rfl) rfl (Calm.then (Calm.then Post.calm)) ?_
            refine AtO.quiet rfl (q_extract rfl rfl) rfl (Calm.then (Calm.then Post.calm)) ?_
            refine AtO.loudNA rfl (l_store t40 rfl rfl (i := 0) rfl rfl rfl rfl) (by rintro _ _ _ ⟨rfl, rfl⟩; exact ⟨fun _ h => h, (.cons _ (.cons_cons _ (.cons_cons _ (.refl _))))⟩) ?_
            rintro _ _ _ ⟨rfl, rfl⟩
            refine AtO.done ?_
            refine At.skim 1 rfl rfl ?_
            refine At.nil ?_
            refine At.then ?_
            exact At.meetK (b4, us1, rs1) trivial (Tells.meet 11 ⟨rfl, rfl, trivial⟩ rfl rfl) (fun _ h => h.2.2) (.cons_cons _ (.refl _))
        intro j0 hMt
        obtain ⟨b9, us, rs⟩ := j0
        refine At.seq ?_
        refine At.region ?_
        refine At.quiet (q_loadS t24 rfl (RdS.loc (i := 1) rfl (m := 2) rfl) rfl) rfl ?_
        refine At.fld s40 t3 rfl rfl rfl (Rd.loc (i := 0) rfl rfl) rfl rfl ?_
        refine At.call en48 rfl (join48 _ (by assumption) _) (fun _ h => ⟨h.2.1, h.2.2.1, trivial⟩) (List.Perm.refl _) rfl ?_
        rintro _ _ _ ⟨v1, rfl, rfl, rfl, hpv1⟩
        refine At.skim 1 rfl rfl ?_
        refine At.quiet (q_extract rfl rfl) rfl ?_
        refine At.quiet (q_extract rfl rfl) rfl ?_
        refine At.loud (l_alloc t24) rfl ?_
        rintro _ _ _ ⟨b5, rfl, rfl, rfl⟩
        refine At.loudN (l_store t24 rfl rfl (i := 0) rfl rfl rfl rfl) ?_
        rintro _ _ _ ⟨rfl, rfl⟩
        refine At.skim 1 rfl rfl ?_
        refine At.nil ?_
        refine At.then ?_
        refine At.seq ?_
        refine At.region ?_
        refine At.quiet (q_loadS t24 rfl (RdS.loc (i := 3) rfl (m := 2) rfl) rfl) rfl ?_
        refine At.skim 2 rfl rfl ?_
        refine At.call en34 rfl (set34 _ (by assumption) _ x.ps hxs _) (fun _ h => ⟨h.2.2.2.2.2.2.2.1, h.2.2.2.2.2.2.2.2.1, h.2.2.1, trivial⟩) (List.Perm.refl _) rfl ?_
        rintro _ _ _ ⟨w1, Mw1, rfl, rfl, rfl, hw1, hpw1⟩
        refine At.skim 1 rfl rfl ?_
        refine At.quiet (q_extract rfl rfl) rfl ?_
        refine At.quiet (q_extract rfl rfl) rfl ?_
        refine At.loud (l_alloc t24) rfl ?_
        rintro _ _ _ ⟨b6, rfl, rfl, rfl⟩
        refine At.loudN (l_store t24 rfl rfl (i := 0) rfl rfl rfl rfl) ?_
        rintro _ _ _ ⟨rfl, rfl⟩
        refine At.skim 1 rfl rfl ?_
        refine At.nil ?_
        refine At.then ?_
        refine At.seq ?_
        refine At.region ?_
        refine At.freezeOwn 1 hw1 rfl ?_
        obtain ⟨q1, q2, q3, q4⟩ := join_opt hpv1 hb1
        have hvs1 : smallP v1.ns.l := small_all q1 (by rw [q3, k3]; exact hall) (by omega)
        have hsm1 : sameT v1.p w1.p = true := by rw [hpv1, hpw1]; exact hb3
        have hwm : (mayT w1.p).isSome = true := by
          unfold sameT at hsm1
          simp only [Bool.and_eq_true] at hsm1
          exact hsm1.2.1
        have hws1 : smallP w1.ns.l := small_all hwm (by rw [all_plain, ← same_plain hsm1, ← all_plain, q3, k3]; exact hall) (by omega)
        refine At.skim 3 rfl rfl ?_
        refine At.say 92 (.bool false) rfl (congrArg Value.bool (by rw [k1]; rfl)) ?_
        refine At.skim 4 rfl rfl ?_
        refine At.say 96 (.bool false) rfl (congrArg Value.bool (by rw [hb1]; rfl)) ?_
        refine At.skim 4 rfl rfl ?_
        refine At.say 100 (.bool false) rfl (congrArg Value.bool (by rw [hb2]; rfl)) ?_
        refine At.open rfl rfl ?_
        refine At.quiet (q_loadS t24 rfl (RdS.loc (i := 1) rfl (m := 2) rfl) rfl) rfl ?_
        refine At.open rfl rfl ?_
        refine At.quiet (q_loadS t24 rfl (RdS.loc (i := 0) rfl (m := 2) rfl) rfl) rfl ?_
        refine At.open rfl rfl ?_
        refine At.call en37 rfl (same37 _ _ (by assumption) (by assumption)) (fun _ h => ⟨h.2.2.1, h.2.2.2.1, h.1, h.2.1, trivial⟩) (List.Perm.refl _) rfl ?_
        rintro _ _ _ ⟨rfl, rfl, rfl⟩
        refine At.skim 2 rfl rfl ?_
        refine At.nil ?_
        refine At.then ?_
        refine At.say 105 (.bool false) rfl (congrArg Value.bool (by rw [hsm1]; rfl)) ?_
        refine At.condF rfl ?_
        refine At.skip ?_
        refine At.then ?_
        refine At.seq ?_
        refine At.region ?_
        refine At.quiet (q_loadS t24 rfl (RdS.loc (i := 4) rfl (m := 2) rfl) rfl) rfl ?_
        refine At.call en29 rfl (all29f _ (by assumption)) (fun _ h => ⟨h.2.2.2.2.2.2.2.2.2.1, h.2.2.2.2.2.2.2.2.2.2.1, trivial⟩) (List.Perm.refl _) rfl ?_
        rintro _ _ _ ⟨al, rfl, rfl, rfl, hpal⟩
        refine At.skim 1 rfl rfl ?_
        refine At.nil ?_
        refine At.then ?_
        refine At.seq ?_
        refine At.seq ?_
        refine At.region ?_
        refine At.skim 1 rfl rfl ?_
        refine At.nil ?_
        refine At.then ?_
        refine At.block ?_
        refine At.front 4 rfl ?_
        refine At.loopK (ι := Nat × Tr) [4, 16, 17, 18, 108, 109, 110, 111, 112, 113, 114, 115, 116, 117, 118, 119, 120, 121, 122, 123, 124, 125, 126, 127, 128, 129] (fun ⟨k, v⟩ => [(108, .int .i64 (k : Int))]) (fun ⟨k, v⟩ => [ndsP v.ns, psP v.ns.l]) (fun ⟨k, v⟩ => [[(b1, .cells #[.int .i64 v.root, v.ns.val] 24 (0, 0))]]) _ (fun ⟨k, v⟩ => k ≤ 400 ∧ (mayT v.p).isSome = true ∧ allT v.p = allT t.p ∧ (leavesT v.p).length + k ≤ 400) (fun ⟨k, v⟩ => 400 - k) (0, t) ⟨Nat.zero_le _, not_f hmy, rfl, by omega⟩ ⟨rfl, trivial⟩ (fun _ h => ⟨h.2.2.2.2.2.2.2.2.2.2.1, h.2.2.2.2.2.2.2.2.2.2.2.1, trivial⟩) (.cons_cons _ (.refl _)) ?_
        intro i0 hI0
        obtain ⟨k, v⟩ := i0
        obtain ⟨hk4, hvm, hva, hvk⟩ := hI0
        obtain ⟨s, hs⟩ := Option.isSome_iff_exists.1 hvm
        have hvs : smallP v.ns.l := small_all hvm (by rw [hva]; exact hall) (by omega)
        have hvf := few_nodes hvm
        have hvN : v.p.ns.length = v.ns.l.length := by simp [Tr.p]
        have hlp := leavesT_pos hs
        refine At.seq ?_
        refine At.region ?_
        refine At.skim 1 rfl rfl ?_
        refine At.nil ?_
        refine At.then ?_
        refine At.seq ?_
        refine At.if rfl (fun hk => ?_) (fun hk => ?_)
        · skip
          refine At.skip ?_
          refine At.then ?_
          refine At.seq ?_
          refine At.block ?_
          refine At.seq ?_
          refine At.region ?_
          refine At.quiet (q_loadS t24 rfl (RdS.loc (i := 0) rfl (m := 2) rfl) rfl) rfl ?_
          refine At.call en28 rfl (leaves28f _) (fun _ h => ⟨h.1, h.2.1, trivial⟩) (List.Perm.refl _) rfl ?_
          rintro _ _ _ ⟨lw, rfl, rfl, rfl, hplw⟩
          refine At.skim 1 rfl rfl ?_
          refine At.nil ?_
          refine At.then ?_
          refine At.seq ?_
          refine At.seq ?_
          refine At.region ?_
          have hlw : lw.l.length = (leavesT v.p).length := by rw [hplw, toI_length]
          have hle := leavesT_len v.p
          refine At.skim 1 rfl rfl ?_
          refine At.quiet (q_len Try.underlying37 rfl) rfl ?_
          refine At.skim 1 rfl rfl ?_
          refine At.nil ?_
          refine At.then ?_
          refine At.if rfl (fun h1 => ?_) (fun h1 => ?_)
          · skip
            refine At.exit ?_
            refine At.thenExit ?_
            refine At.inOther rfl ?_
            refine At.thenExit ?_
            refine At.thenExit ?_
            refine At.inHere rfl ?_
            refine At.then ?_
            refine At.seq ?_
            refine At.region ?_
            refine At.fld s24 t22 rfl rfl rfl (Rd.loc (i := 0) rfl rfl) rfl rfl ?_
            refine At.quiet (q_len Try.underlying22 rfl) rfl ?_
            refine At.skim 2 rfl rfl ?_
            refine At.say 134 (.bool true) rfl (congrArg Value.bool (decide_eq_true (by rw [one_leaf hs (by omega)]; rfl))) ?_
            refine At.open rfl rfl ?_
            refine At.quiet (q_loadS t24 rfl (RdS.loc (i := 0) rfl (m := 2) rfl) rfl) rfl ?_
            refine At.open rfl rfl ?_
            refine At.call en29 rfl (all29f _ (by assumption)) (fun _ h => ⟨h.2.1, h.2.2.1, trivial⟩) (List.Perm.refl _) rfl ?_
            rintro _ _ _ ⟨av, rfl, rfl, rfl, hpav⟩
            refine At.skim 1 rfl rfl ?_
            refine At.open rfl rfl ?_
            refine At.call en33 rfl (same33 _ _) (fun _ h => ⟨h.1, h.2.2.2.2.1, trivial⟩) (List.Perm.refl _) rfl ?_
            rintro _ _ _ ⟨rfl, rfl, rfl⟩
            refine At.skim 2 rfl rfl ?_
            refine At.say 140 (.bool true) rfl (congrArg Value.bool (decide_eq_true (by rw [hpav, hpal, hva]))) ?_
            refine At.open rfl rfl ?_
            refine At.call en45 rfl (awake45) (fun _ _ => trivial) (List.Perm.refl _) rfl ?_
            rintro _ _ _ ⟨rfl, rfl, rfl⟩
            refine At.skim 2 rfl rfl ?_
            refine At.nil ?_
            refine At.then ?_
            refine At.ret ?_
            exact At.results (Γr := []) (M := []) rfl (RVals.cons (RVal.tmp rfl) RVals.nil) (.tail _ (.tail _ (.tail _ (.tail _ (.tail _ (.tail _ (.tail _ (.tail _ (.tail _ (.tail _ (.tail _ (.tail _ (.tail _ (.head _)))))))))))))) (fun _ _ => trivial) (.cons _ (.cons _ (.cons _ (.cons _ (.cons _ (.refl _)))))) ⟨rfl, rfl, rfl⟩
          · skip
            refine At.skip ?_
            refine At.then ?_
            refine At.seq ?_
            obtain ⟨i2, hi2⟩ := get_of_lt (l := leavesT v.p) (i := lw.l.length / 2) (by omega)
            have hui2 : lw.l[lw.l.length / 2]? = some (i2 : Int) := by have h := toI_get hi2; rw [← hplw] at h; exact h
            have hm2 := List.mem_of_getElem? hi2
            have hji := join_iff hs hm2
            refine At.draw 13 (.q 0 (.q 1 (.q 2 (.q 3 (.q 4 (.q 5 (.q 6 (.t 7 (.q 8 (.q 9 (.q 10 (.o 11 (.o 12 (.e)))))) 11 (.o 7 (.q 8 (.q 9 (.q 10 (.o 12 (.e)))))))))))))) _ (List.Sublist.refl _) mixed (by kernel_rfl) rfl ?_
            refine AtO.quiet rfl (q_loadS t24 rfl (RdS.loc (i := 0) rfl (m := 2) rfl) rfl) rfl (Calm.then (Calm.inBlock (Calm.then (Calm.then (Calm.inBlock (Calm.then Post.calm)))))) ?_
            refine AtO.quiet rfl (q_move rfl) rfl (Calm.then (Calm.inBlock (Calm.then (Calm.then (Calm.inBlock (Calm.then Post.calm)))))) ?_
            refine AtO.quiet rfl (q_move rfl) rfl (Calm.then (Calm.inBlock (Calm.then (Calm.then (Calm.inBlock (Calm.then Post.calm)))))) ?_
            refine AtO.quiet rfl (q_len Try.underlying37 rfl) rfl (Calm.then (Calm.inBlock (Calm.then (Calm.then (Calm.inBlock (Calm.then Post.calm)))))) ?_
            refine AtO.quiet rfl (q_quo rfl rfl (by omega)) rfl (Calm.then (Calm.inBlock (Calm.then (Calm.then (Calm.inBlock (Calm.then Post.calm)))))) ?_
            refine AtO.quiet rfl (q_index Try.underlying37 t3 rfl (.head _) (by simp) rfl (half_wrap _ (by omega)) (lt_of_get hui2)) rfl (Calm.then (Calm.inBlock (Calm.then (Calm.then (Calm.inBlock (Calm.then Post.calm)))))) ?_
            refine AtO.quiet rfl (q_load t3 rfl (Rd.sl0 (.head _) (map_get hui2) rfl)) rfl (Calm.then (Calm.inBlock (Calm.then (Calm.then (Calm.inBlock (Calm.then Post.calm)))))) ?_
            refine AtO.two ?_ ?_
            · skip
              refine AtO.call rfl en48 rfl (join48 _ (by assumption) _) (fun _ h => ⟨h.2.1, h.2.2.1, trivial⟩) (List.Perm.refl _) rfl (.refl _) ?_
              rintro _ _ _ ⟨u2, rfl, rfl, rfl, hpu2⟩
              refine AtO.quiet rfl (q_move rfl) rfl (Calm.then (Calm.inBlock (Calm.then (Calm.then (Calm.inBlock (Calm.then Post.calm)))))) ?_
              refine AtO.quiet rfl (q_extract rfl rfl) rfl (Calm.then (Calm.inBlock (Calm.then (Calm.then (Calm.inBlock (Calm.then Post.calm)))))) ?_
              refine AtO.quiet rfl (q_extract rfl rfl) rfl (Calm.then (Calm.inBlock (Calm.then (Calm.then (Calm.inBlock (Calm.then Post.calm)))))) ?_
              refine AtO.loud rfl (l_alloc t24) rfl (by rintro _ _ _ ⟨_, rfl, rfl, rfl⟩; exact ⟨fun _ h => h, .cons _ (.refl _)⟩) ?_
              rintro _ _ _ ⟨b7, rfl, rfl, rfl⟩
              refine AtO.loudNA rfl (l_store t24 rfl rfl (i := 0) rfl rfl rfl rfl) (by rintro _ _ _ ⟨rfl, rfl⟩; exact ⟨fun _ h => h, (.cons _ (.cons_cons _ (.cons_cons _ (.cons_cons _ (.cons_cons _ (.cons_cons _ (.refl _)))))))⟩) ?_
              rintro _ _ _ ⟨rfl, rfl⟩
              refine AtO.done ?_
              refine At.skim 1 rfl rfl ?_
              refine At.nil ?_
              refine At.then ?_
              refine At.seq ?_
              refine At.seq ?_
              refine At.region ?_
              refine At.skim 2 rfl rfl ?_
              refine At.nil ?_
              refine At.then ?_
              refine At.say 127 (.bool false) rfl (congrArg Value.bool (by rw [hji, decide_eq_true (by omega)]; rfl)) ?_
              refine At.condF rfl ?_
              refine At.skip ?_
              refine At.then ?_
              refine At.region ?_
              obtain ⟨k1, k2, k3, k4⟩ := join_opt hpu2 (by rw [hji, decide_eq_true (by omega)])
              refine At.quiet (q_loadS t24 rfl (RdS.loc (i := 0) rfl (m := 2) rfl) rfl) rfl ?_
              refine At.loudN (l_store t24 rfl rfl (i := 1) rfl rfl rfl rfl) ?_
              rintro _ _ _ ⟨rfl, rfl⟩
              refine At.nil ?_
              refine At.inNormal ?_
              refine At.then ?_
              refine At.region ?_
              refine At.quiet (q_add rfl rfl (by omega) (by omega)) rfl ?_
              refine At.skim 1 rfl rfl ?_
              refine At.nil ?_
              refine At.front 1 rfl ?_
              refine At.then ?_
              exact At.againK (k + 1, u2) ⟨by omega, k1, by rw [k3, hva], by omega⟩ (by (try dsimp only); omega) (Tells.end 27 ⟨rfl, trivial⟩ rfl rfl) (fun _ h => ⟨h.1, ⟨h.2.1, h.2.2.2.2.2⟩⟩) (.cons_cons _ (.cons _ (.refl _)))
            · skip
              refine AtO.loud rfl (l_alloc t24) rfl (by rintro _ _ _ ⟨_, rfl, rfl, rfl⟩; exact ⟨fun _ h => h, .cons _ (.refl _)⟩) ?_
              rintro _ _ _ ⟨b8, rfl, rfl, rfl⟩
              refine AtO.call rfl en48 rfl (join48 _ (by assumption) _) (fun _ h => ⟨h.2.1, h.2.2.1, trivial⟩) (List.Perm.refl _) rfl (.cons _ (.cons_cons _ (.cons_cons _ (.cons_cons _ (.cons_cons _ (.cons_cons _ (.refl _))))))) ?_
              rintro _ _ _ ⟨u2, rfl, rfl, rfl, hpu2⟩
              refine AtO.quiet rfl (q_move rfl) rfl (Calm.then (Calm.inBlock (Calm.then (Calm.then (Calm.inBlock (Calm.then Post.calm)))))) ?_
              refine AtO.quiet rfl (q_extract rfl rfl) rfl (Calm.then (Calm.inBlock (Calm.then (Calm.then (Calm.inBlock (Calm.then Post.calm)))))) ?_
              refine AtO.quiet rfl (q_extract rfl rfl) rfl (Calm.then (Calm.inBlock (Calm.then (Calm.then (Calm.inBlock (Calm.then Post.calm)))))) ?_
              refine AtO.loudNA rfl (l_store t24 rfl rfl (i := 0) rfl rfl rfl rfl) (by rintro _ _ _ ⟨rfl, rfl⟩; exact ⟨fun _ h => h, (.cons _ (.cons_cons _ (.cons_cons _ (.cons_cons _ (.cons_cons _ (.cons_cons _ (.refl _)))))))⟩) ?_
              rintro _ _ _ ⟨rfl, rfl⟩
              refine AtO.done ?_
              refine At.skim 1 rfl rfl ?_
              refine At.nil ?_
              refine At.then ?_
              refine At.seq ?_
              refine At.seq ?_
              refine At.region ?_
              refine At.skim 2 rfl rfl ?_
              refine At.nil ?_
              refine At.then ?_
              refine At.say 127 (.bool false) rfl (congrArg Value.bool (by rw [hji, decide_eq_true (by omega)]; rfl)) ?_
              refine At.condF rfl ?_
              refine At.skip ?_
              refine At.then ?_
              refine At.region ?_
              obtain ⟨k1, k2, k3, k4⟩ := join_opt hpu2 (by rw [hji, decide_eq_true (by omega)])
              refine At.quiet (q_loadS t24 rfl (RdS.loc (i := 0) rfl (m := 2) rfl) rfl) rfl ?_
              refine At.loudN (l_store t24 rfl rfl (i := 1) rfl rfl rfl rfl) ?_
              rintro _ _ _ ⟨rfl, rfl⟩
              refine At.nil ?_
              refine At.inNormal ?_
              refine At.then ?_
              refine At.region ?_
              refine At.quiet (q_add rfl rfl (by omega) (by omega)) rfl ?_
              refine At.skim 1 rfl rfl ?_
              refine At.nil ?_
              refine At.front 1 rfl ?_
              refine At.then ?_
              exact At.againK (k + 1, u2) ⟨by omega, k1, by rw [k3, hva], by omega⟩ (by (try dsimp only); omega) (Tells.end 27 ⟨rfl, trivial⟩ rfl rfl) (fun _ h => ⟨h.1, ⟨h.2.1, h.2.2.2.2.2⟩⟩) (.cons_cons _ (.cons _ (.refl _)))
        · skip
          exfalso; omega
      · skip
        refine At.skim 10 rfl rfl ?_
        refine At.nil ?_
        refine At.then ?_
        refine At.condF rfl ?_
        refine At.skip ?_
        refine At.then ?_
        refine At.seq ?_
        refine At.region ?_
        refine At.quiet (q_loadS t24 rfl (RdS.loc (i := 1) rfl (m := 2) rfl) rfl) rfl ?_
        refine At.call en29 rfl (all29f _ (by assumption)) (fun _ h => ⟨h.2.2.2.2.1, h.2.2.2.2.2.1, trivial⟩) (List.Perm.refl _) rfl ?_
        rintro _ _ _ ⟨al, rfl, rfl, rfl, hpal⟩
        refine At.skim 1 rfl rfl ?_
        refine At.nil ?_
        refine At.then ?_
        refine At.seq ?_
        refine At.seq ?_
        refine At.region ?_
        refine At.skim 1 rfl rfl ?_
        refine At.nil ?_
        refine At.then ?_
        refine At.block ?_
        refine At.front 1 rfl ?_
        refine At.loopK (ι := Nat × Tr) [4, 16, 17, 18, 108, 109, 110, 111, 112, 113, 114, 115, 116, 117, 118, 119, 120, 121, 122, 123, 124, 125, 126, 127, 128, 129] (fun ⟨k, v⟩ => [(108, .int .i64 (k : Int))]) (fun ⟨k, v⟩ => [ndsP v.ns, psP v.ns.l]) (fun ⟨k, v⟩ => [[(b1, .cells #[.int .i64 v.root, v.ns.val] 24 (0, 0))]]) _ (fun ⟨k, v⟩ => k ≤ 400 ∧ (mayT v.p).isSome = true ∧ allT v.p = allT t.p ∧ (leavesT v.p).length + k ≤ 400) (fun ⟨k, v⟩ => 400 - k) (0, t) ⟨Nat.zero_le _, not_f hmy, rfl, by omega⟩ ⟨rfl, trivial⟩ (fun _ h => ⟨h.2.2.2.2.2.1, h.2.2.2.2.2.2.1, trivial⟩) (.cons_cons _ (.refl _)) ?_
        intro i0 hI0
        obtain ⟨k, v⟩ := i0
        obtain ⟨hk4, hvm, hva, hvk⟩ := hI0
        obtain ⟨s, hs⟩ := Option.isSome_iff_exists.1 hvm
        have hvs : smallP v.ns.l := small_all hvm (by rw [hva]; exact hall) (by omega)
        have hvf := few_nodes hvm
        have hvN : v.p.ns.length = v.ns.l.length := by simp [Tr.p]
        have hlp := leavesT_pos hs
        refine At.seq ?_
        refine At.region ?_
        refine At.skim 1 rfl rfl ?_
        refine At.nil ?_
        refine At.then ?_
        refine At.seq ?_
        refine At.if rfl (fun hk => ?_) (fun hk => ?_)
        · skip
          refine At.skip ?_
          refine At.then ?_
          refine At.seq ?_
          refine At.block ?_
          refine At.seq ?_
          refine At.region ?_
          refine At.quiet (q_loadS t24 rfl (RdS.loc (i := 0) rfl (m := 2) rfl) rfl) rfl ?_
          refine At.call en28 rfl (leaves28f _) (fun _ h => ⟨h.1, h.2.1, trivial⟩) (List.Perm.refl _) rfl ?_
          rintro _ _ _ ⟨lw, rfl, rfl, rfl, hplw⟩
          refine At.skim 1 rfl rfl ?_
          refine At.nil ?_
          refine At.then ?_
          refine At.seq ?_
          refine At.seq ?_
          refine At.region ?_
          have hlw : lw.l.length = (leavesT v.p).length := by rw [hplw, toI_length]
          have hle := leavesT_len v.p
          refine At.skim 1 rfl rfl ?_
          refine At.quiet (q_len Try.underlying37 rfl) rfl ?_
          refine At.skim 1 rfl rfl ?_
          refine At.nil ?_
          refine At.then ?_
          refine At.if rfl (fun h1 => ?_) (fun h1 => ?_)
          · skip
            refine At.exit ?_
            refine At.thenExit ?_
            refine At.inOther rfl ?_
            refine At.thenExit ?_
            refine At.thenExit ?_
            refine At.inHere rfl ?_
            refine At.then ?_
            refine At.seq ?_
            refine At.region ?_
            refine At.fld s24 t22 rfl rfl rfl (Rd.loc (i := 0) rfl rfl) rfl rfl ?_
            refine At.quiet (q_len Try.underlying22 rfl) rfl ?_
            refine At.skim 2 rfl rfl ?_
            refine At.say 134 (.bool true) rfl (congrArg Value.bool (decide_eq_true (by rw [one_leaf hs (by omega)]; rfl))) ?_
            refine At.open rfl rfl ?_
            refine At.quiet (q_loadS t24 rfl (RdS.loc (i := 0) rfl (m := 2) rfl) rfl) rfl ?_
            refine At.open rfl rfl ?_
            refine At.call en29 rfl (all29f _ (by assumption)) (fun _ h => ⟨h.2.1, h.2.2.1, trivial⟩) (List.Perm.refl _) rfl ?_
            rintro _ _ _ ⟨av, rfl, rfl, rfl, hpav⟩
            refine At.skim 1 rfl rfl ?_
            refine At.open rfl rfl ?_
            refine At.call en33 rfl (same33 _ _) (fun _ h => ⟨h.1, h.2.2.2.2.1, trivial⟩) (List.Perm.refl _) rfl ?_
            rintro _ _ _ ⟨rfl, rfl, rfl⟩
            refine At.skim 2 rfl rfl ?_
            refine At.say 140 (.bool true) rfl (congrArg Value.bool (decide_eq_true (by rw [hpav, hpal, hva]))) ?_
            refine At.open rfl rfl ?_
            refine At.call en45 rfl (awake45) (fun _ _ => trivial) (List.Perm.refl _) rfl ?_
            rintro _ _ _ ⟨rfl, rfl, rfl⟩
            refine At.skim 2 rfl rfl ?_
            refine At.nil ?_
            refine At.then ?_
            refine At.ret ?_
            exact At.results (Γr := []) (M := []) rfl (RVals.cons (RVal.tmp rfl) RVals.nil) (.tail _ (.tail _ (.tail _ (.tail _ (.tail _ (.tail _ (.tail _ (.tail _ (.head _))))))))) (fun _ _ => trivial) (.cons _ (.cons _ (.refl _))) ⟨rfl, rfl, rfl⟩
          · skip
            refine At.skip ?_
            refine At.then ?_
            refine At.seq ?_
            obtain ⟨i2, hi2⟩ := get_of_lt (l := leavesT v.p) (i := lw.l.length / 2) (by omega)
            have hui2 : lw.l[lw.l.length / 2]? = some (i2 : Int) := by have h := toI_get hi2; rw [← hplw] at h; exact h
            have hm2 := List.mem_of_getElem? hi2
            have hji := join_iff hs hm2
            refine At.draw 13 (.q 0 (.q 1 (.q 2 (.q 3 (.q 4 (.q 5 (.q 6 (.t 7 (.q 8 (.q 9 (.q 10 (.o 11 (.o 12 (.e)))))) 11 (.o 7 (.q 8 (.q 9 (.q 10 (.o 12 (.e)))))))))))))) _ (List.Sublist.refl _) mixed (by kernel_rfl) rfl ?_
            refine AtO.quiet rfl (q_loadS t24 rfl (RdS.loc (i := 0) rfl (m := 2) rfl) rfl) rfl (Calm.then (Calm.inBlock (Calm.then (Calm.then (Calm.inBlock (Calm.then Post.calm)))))) ?_
            refine AtO.quiet rfl (q_move rfl) rfl (Calm.then (Calm.inBlock (Calm.then (Calm.then (Calm.inBlock (Calm.then Post.calm)))))) ?_
            refine AtO.quiet rfl (q_move rfl) rfl (Calm.then (Calm.inBlock (Calm.then (Calm.then (Calm.inBlock (Calm.then Post.calm)))))) ?_
            refine AtO.quiet rfl (q_len Try.underlying37 rfl) rfl (Calm.then (Calm.inBlock (Calm.then (Calm.then (Calm.inBlock (Calm.then Post.calm)))))) ?_
            refine AtO.quiet rfl (q_quo rfl rfl (by omega)) rfl (Calm.then (Calm.inBlock (Calm.then (Calm.then (Calm.inBlock (Calm.then Post.calm)))))) ?_
            refine AtO.quiet rfl (q_index Try.underlying37 t3 rfl (.head _) (by simp) rfl (half_wrap _ (by omega)) (lt_of_get hui2)) rfl (Calm.then (Calm.inBlock (Calm.then (Calm.then (Calm.inBlock (Calm.then Post.calm)))))) ?_
            refine AtO.quiet rfl (q_load t3 rfl (Rd.sl0 (.head _) (map_get hui2) rfl)) rfl (Calm.then (Calm.inBlock (Calm.then (Calm.then (Calm.inBlock (Calm.then Post.calm)))))) ?_
            refine AtO.two ?_ ?_
            · skip
              refine AtO.call rfl en48 rfl (join48 _ (by assumption) _) (fun _ h => ⟨h.2.1, h.2.2.1, trivial⟩) (List.Perm.refl _) rfl (.refl _) ?_
              rintro _ _ _ ⟨u2, rfl, rfl, rfl, hpu2⟩
              refine AtO.quiet rfl (q_move rfl) rfl (Calm.then (Calm.inBlock (Calm.then (Calm.then (Calm.inBlock (Calm.then Post.calm)))))) ?_
              refine AtO.quiet rfl (q_extract rfl rfl) rfl (Calm.then (Calm.inBlock (Calm.then (Calm.then (Calm.inBlock (Calm.then Post.calm)))))) ?_
              refine AtO.quiet rfl (q_extract rfl rfl) rfl (Calm.then (Calm.inBlock (Calm.then (Calm.then (Calm.inBlock (Calm.then Post.calm)))))) ?_
              refine AtO.loud rfl (l_alloc t24) rfl (by rintro _ _ _ ⟨_, rfl, rfl, rfl⟩; exact ⟨fun _ h => h, .cons _ (.refl _)⟩) ?_
              rintro _ _ _ ⟨b9, rfl, rfl, rfl⟩
              refine AtO.loudNA rfl (l_store t24 rfl rfl (i := 0) rfl rfl rfl rfl) (by rintro _ _ _ ⟨rfl, rfl⟩; exact ⟨fun _ h => h, (.cons _ (.cons_cons _ (.cons_cons _ (.refl _))))⟩) ?_
              rintro _ _ _ ⟨rfl, rfl⟩
              refine AtO.done ?_
              refine At.skim 1 rfl rfl ?_
              refine At.nil ?_
              refine At.then ?_
              refine At.seq ?_
              refine At.seq ?_
              refine At.region ?_
              refine At.skim 2 rfl rfl ?_
              refine At.nil ?_
              refine At.then ?_
              refine At.say 127 (.bool false) rfl (congrArg Value.bool (by rw [hji, decide_eq_true (by omega)]; rfl)) ?_
              refine At.condF rfl ?_
              refine At.skip ?_
              refine At.then ?_
              refine At.region ?_
              obtain ⟨k1, k2, k3, k4⟩ := join_opt hpu2 (by rw [hji, decide_eq_true (by omega)])
              refine At.quiet (q_loadS t24 rfl (RdS.loc (i := 0) rfl (m := 2) rfl) rfl) rfl ?_
              refine At.loudN (l_store t24 rfl rfl (i := 1) rfl rfl rfl rfl) ?_
              rintro _ _ _ ⟨rfl, rfl⟩
              refine At.nil ?_
              refine At.inNormal ?_
              refine At.then ?_
              refine At.region ?_
              refine At.quiet (q_add rfl rfl (by omega) (by omega)) rfl ?_
              refine At.skim 1 rfl rfl ?_
              refine At.nil ?_
              refine At.front 1 rfl ?_
              refine At.then ?_
              exact At.againK (k + 1, u2) ⟨by omega, k1, by rw [k3, hva], by omega⟩ (by (try dsimp only); omega) (Tells.end 27 ⟨rfl, trivial⟩ rfl rfl) (fun _ h => ⟨h.1, ⟨h.2.1, h.2.2.2.2.2⟩⟩) (.cons_cons _ (.cons _ (.refl _)))
            · skip
              refine AtO.loud rfl (l_alloc t24) rfl (by rintro _ _ _ ⟨_, rfl, rfl, rfl⟩; exact ⟨fun _ h => h, .cons _ (.refl _)⟩) ?_
              rintro _ _ _ ⟨b10, rfl, rfl, rfl⟩
              refine AtO.call rfl en48 rfl (join48 _ (by assumption) _) (fun _ h => ⟨h.2.1, h.2.2.1, trivial⟩) (List.Perm.refl _) rfl (.cons _ (.cons_cons _ (.cons_cons _ (.refl _)))) ?_
              rintro _ _ _ ⟨u2, rfl, rfl, rfl, hpu2⟩
              refine AtO.quiet rfl (q_move rfl) rfl (Calm.then (Calm.inBlock (Calm.then (Calm.then (Calm.inBlock (Calm.then Post.calm)))))) ?_
              refine AtO.quiet rfl (q_extract rfl rfl) rfl (Calm.then (Calm.inBlock (Calm.then (Calm.then (Calm.inBlock (Calm.then Post.calm)))))) ?_
              refine AtO.quiet rfl (q_extract rfl rfl) rfl (Calm.then (Calm.inBlock (Calm.then (Calm.then (Calm.inBlock (Calm.then Post.calm)))))) ?_
              refine AtO.loudNA rfl (l_store t24 rfl rfl (i := 0) rfl rfl rfl rfl) (by rintro _ _ _ ⟨rfl, rfl⟩; exact ⟨fun _ h => h, (.cons _ (.cons_cons _ (.cons_cons _ (.refl _))))⟩) ?_
              rintro _ _ _ ⟨rfl, rfl⟩
              refine AtO.done ?_
              refine At.skim 1 rfl rfl ?_
              refine At.nil ?_
              refine At.then ?_
              refine At.seq ?_
              refine At.seq ?_
              refine At.region ?_
              refine At.skim 2 rfl rfl ?_
              refine At.nil ?_
              refine At.then ?_
              refine At.say 127 (.bool false) rfl (congrArg Value.bool (by rw [hji, decide_eq_true (by omega)]; rfl)) ?_
              refine At.condF rfl ?_
              refine At.skip ?_
              refine At.then ?_
              refine At.region ?_
              obtain ⟨k1, k2, k3, k4⟩ := join_opt hpu2 (by rw [hji, decide_eq_true (by omega)])
              refine At.quiet (q_loadS t24 rfl (RdS.loc (i := 0) rfl (m := 2) rfl) rfl) rfl ?_
              refine At.loudN (l_store t24 rfl rfl (i := 1) rfl rfl rfl rfl) ?_
              rintro _ _ _ ⟨rfl, rfl⟩
              refine At.nil ?_
              refine At.inNormal ?_
              refine At.then ?_
              refine At.region ?_
              refine At.quiet (q_add rfl rfl (by omega) (by omega)) rfl ?_
              refine At.skim 1 rfl rfl ?_
              refine At.nil ?_
              refine At.front 1 rfl ?_
              refine At.then ?_
              exact At.againK (k + 1, u2) ⟨by omega, k1, by rw [k3, hva], by omega⟩ (by (try dsimp only); omega) (Tells.end 27 ⟨rfl, trivial⟩ rfl rfl) (fun _ h => ⟨h.1, ⟨h.2.1, h.2.2.2.2.2⟩⟩) (.cons_cons _ (.cons _ (.refl _)))
        · skip
          exfalso; omega

end Go.Proofs.Ytmkodknmknfdkaa
