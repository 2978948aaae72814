/- The walks of the laws of adapt, more. -/
import Derived.Test.YtmkodknmknfdkaaB15
import Derived.Test.YtmkodknmknfdkaaP17
set_option linter.unusedVariables false
set_option linter.unusedSimpArgs false
namespace Go.Proofs.Ytmkodknmknfdkaa
open E
set_option maxRecDepth 4000



set_option maxHeartbeats 1000000 in
theorem keeps10 (t : Tr) (hz : ∀ n ∈ t.ns.l, n.ps.l.length ≤ 8796093022208) (l : Sl Int) : Con Try.prog 10 [t.val, l.val] [ndsP t.ns, psP t.ns.l, intsP l] [] (fun v Γ M => v = .bool true ∧ Γ = [] ∧ M = []) := by
  refine Con.body 96 Try.func10 rfl Try.ntmps10 rfl fun X H₀ L₀ => ?_
  refine At.seq ?_
  refine At.region ?_
  refine At.loud (l_box rfl) rfl ?_
  rintro _ _ _ ⟨b1, rfl, rfl, rfl⟩
  refine At.skim 1 rfl rfl ?_
  refine At.nil ?_
  refine At.then ?_
  refine At.seq ?_
  refine At.seq ?_
  refine At.region ?_
  refine At.quiet (q_loadS t24 rfl (RdS.loc (i := 0) rfl (m := 2) rfl) rfl) rfl ?_
  refine At.call en20 rfl (light20 _ (by assumption)) (fun _ h => ⟨h.2.1, trivial⟩) (List.Perm.refl _) rfl ?_
  rintro _ _ _ ⟨rfl, rfl, rfl⟩
  refine At.skim 2 rfl rfl ?_
  refine At.splitP (d := 16) rfl (fun hlg => ?_) (fun hlg => ?_)
  · skip
    refine At.skim 9 rfl rfl ?_
    refine At.nil ?_
    refine At.then ?_
    refine At.condT rfl ?_
    refine At.seq ?_
    refine At.region ?_
    refine At.call en45 rfl (awake45) (fun _ _ => trivial) (List.Perm.refl _) rfl ?_
    rintro _ _ _ ⟨rfl, rfl, rfl⟩
    refine At.skim 1 rfl rfl ?_
    refine At.nil ?_
    refine At.then ?_
    refine At.ret ?_
    refine At.thenRet ?_
    exact At.results (Γr := []) (M := []) rfl (RVals.cons (RVal.tmp rfl) RVals.nil) (.head _) (fun _ _ => trivial) (.cons _ (.refl _)) ⟨rfl, rfl, rfl⟩
  · skip
    have hli : lightT t.p = true := light_yes hlg
    obtain ⟨h450, hsm, hp2000⟩ := small_of_light hli
    have hN : t.p.ns.length = t.ns.l.length := by simp [Tr.p]
    refine At.skim 1 rfl rfl ?_
    refine At.open rfl rfl ?_
    refine At.quiet (q_len Try.underlying37 rfl) rfl ?_
    refine At.skim 3 rfl rfl ?_
    refine At.splitP (d := 21) rfl (fun hl60 => ?_) (fun hl60 => ?_)
    · skip
      refine At.skim 4 rfl rfl ?_
      refine At.nil ?_
      refine At.then ?_
      refine At.condT rfl ?_
      refine At.seq ?_
      refine At.region ?_
      refine At.call en45 rfl (awake45) (fun _ _ => trivial) (List.Perm.refl _) rfl ?_
      rintro _ _ _ ⟨rfl, rfl, rfl⟩
      refine At.skim 1 rfl rfl ?_
      refine At.nil ?_
      refine At.then ?_
      refine At.ret ?_
      refine At.thenRet ?_
      exact At.results (Γr := []) (M := []) rfl (RVals.cons (RVal.tmp rfl) RVals.nil) (.head _) (fun _ _ => trivial) (.cons _ (.refl _)) ⟨rfl, rfl, rfl⟩
    · skip
      refine At.open rfl rfl ?_
      refine At.quiet (q_loadS t24 rfl (RdS.loc (i := 0) rfl (m := 2) rfl) rfl) rfl ?_
      refine At.open rfl rfl ?_
      refine At.call en21 rfl (may21 _) (fun _ h => ⟨h.2.1, h.2.2.1, trivial⟩) (List.Perm.refl _) rfl ?_
      rintro _ _ _ ⟨rfl, rfl, rfl⟩
      refine At.skim 2 rfl rfl ?_
      refine At.nil ?_
      refine At.then ?_
      refine At.cond rfl (fun hmy => ?_) (fun hmy => ?_)
      · skip
        refine At.seq ?_
        refine At.region ?_
        refine At.call en45 rfl (awake45) (fun _ _ => trivial) (List.Perm.refl _) rfl ?_
        rintro _ _ _ ⟨rfl, rfl, rfl⟩
        refine At.skim 1 rfl rfl ?_
        refine At.nil ?_
        refine At.then ?_
        refine At.ret ?_
        refine At.thenRet ?_
        exact At.results (Γr := []) (M := []) rfl (RVals.cons (RVal.tmp rfl) RVals.nil) (.head _) (fun _ _ => trivial) (.cons _ (.refl _)) ⟨rfl, rfl, rfl⟩
      · skip
        refine At.skip ?_
        refine At.then ?_
        refine At.seq ?_
        refine At.region ?_
        obtain ⟨s0, hs0⟩ := Option.isSome_iff_exists.1 (not_f hmy)
        have hall := all_len hs0 hp2000
        refine At.quiet (q_loadS t24 rfl (RdS.loc (i := 0) rfl (m := 2) rfl) rfl) rfl ?_
        refine At.call en29 rfl (all29f _ (by assumption)) (fun _ h => ⟨h.2.1, h.2.2.1, trivial⟩) (List.Perm.refl _) rfl ?_
        rintro _ _ _ ⟨al, rfl, rfl, rfl, hpal⟩
        refine At.skim 1 rfl rfl ?_
        refine At.nil ?_
        refine At.then ?_
        refine At.seq ?_
        refine At.seq ?_
        refine At.region ?_
        refine At.skim 1 rfl rfl ?_
        refine At.quiet (q_len Try.underlying37 rfl) rfl ?_
        refine At.skim 1 rfl rfl ?_
        refine At.nil ?_
        refine At.then ?_
        refine At.block ?_
        refine At.loopK (ι := Nat × Tr) [4, 7, 8, 9, 10, 11, 12, 31, 32, 33, 34, 35, 36, 37, 38, 39, 40, 41, 42, 43, 44, 45, 46, 47, 48, 49, 50, 51, 52, 53, 54, 55, 56, 57, 58, 59, 60, 61, 62, 63, 64, 65, 66, 67, 68, 69, 70, 71, 72, 73, 74, 75, 76, 77, 78, 79, 80, 81, 82, 83, 84, 85, 86, 87, 88, 89, 90, 91, 92, 93, 94] (fun ⟨k, v⟩ => [(31, .int .i64 (k : Int))]) (fun ⟨k, v⟩ => [ndsP v.ns, psP v.ns.l]) (fun ⟨k, v⟩ => [[(b1, .cells #[.int .i64 v.root, v.ns.val] 24 (0, 0))]]) _ (fun ⟨k, v⟩ => k ≤ l.l.length ∧ (mayT v.p).isSome = true ∧ allT v.p = allT t.p) (fun ⟨k, v⟩ => l.l.length - k) (0, t) ⟨Nat.zero_le _, not_f hmy, rfl⟩ ⟨rfl, trivial⟩ (fun _ h => ⟨h.2.2.1, h.2.2.2.1, trivial⟩) (.cons_cons _ (.refl _)) ?_
        intro i0 hI0
        obtain ⟨k, v⟩ := i0
        obtain ⟨hkl, hvm, hva⟩ := hI0
        obtain ⟨s, hs⟩ := Option.isSome_iff_exists.1 hvm
        have hvs : smallP v.ns.l := small_all hvm (by rw [hva]; exact hall) (by omega)
        have hvf := few_nodes hvm
        have hvN : v.p.ns.length = v.ns.l.length := by simp [Tr.p]
        refine At.seq ?_
        refine At.region ?_
        refine At.skim 1 rfl rfl ?_
        refine At.nil ?_
        refine At.then ?_
        refine At.seq ?_
        refine At.if rfl (fun hk => ?_) (fun hk => ?_)
        · skip
          obtain ⟨x, hx⟩ := get_of_lt (l := l.l) (i := k) (by omega)
          have hk1 : k + 1 ≤ l.l.length := by omega
          refine At.skip ?_
          refine At.then ?_
          refine At.seq ?_
          refine At.block ?_
          refine At.seq ?_
          refine At.region ?_
          refine At.quiet (q_index Try.underlying37 t3 rfl (.tail _ (.tail _ (.tail _ (.tail _ (.tail _ (.tail _ (.head _))))))) (by simp) rfl rfl (lt_of_get hx)) rfl ?_
          refine At.quiet (q_load t3 rfl (Rd.sl0 (.tail _ (.tail _ (.tail _ (.tail _ (.tail _ (.tail _ (.head _))))))) (map_get hx) rfl)) rfl ?_
          refine At.skim 1 rfl rfl ?_
          refine At.nil ?_
          refine At.then ?_
          refine At.seq ?_
          refine At.region ?_
          refine At.quiet (q_loadS t24 rfl (RdS.loc (i := 0) rfl (m := 2) rfl) rfl) rfl ?_
          refine At.call en28 rfl (leaves28f _) (fun _ h => ⟨h.1, h.2.1, trivial⟩) (List.Perm.refl _) rfl ?_
          rintro _ _ _ ⟨lv, rfl, rfl, rfl, hplv⟩
          refine At.skim 1 rfl rfl ?_
          refine At.nil ?_
          refine At.then ?_
          refine At.seq ?_
          refine At.seq ?_
          refine At.region ?_
          have hlp := leavesT_pos hs
          have hll : lv.l.length = (leavesT v.p).length := by rw [hplv, toI_length]
          have hle := leavesT_len v.p
          refine At.skim 1 rfl rfl ?_
          refine At.quiet (q_len Try.underlying37 rfl) rfl ?_
          refine At.skim 1 rfl rfl ?_
          refine At.nil ?_
          refine At.then ?_
          refine At.say 39 (.bool false) rfl (congrArg Value.bool (decide_eq_false (by omega))) ?_
          refine At.condF rfl ?_
          refine At.skip ?_
          refine At.then ?_
          refine At.seq ?_
          refine At.region ?_
          obtain ⟨j, hj, hje, hjne⟩ := pick (a := Int.tdiv (IntKind.u64.wrap x) 2) (n := lv.l.length) (by omega) (by omega)
          obtain ⟨i, hi⟩ := get_of_lt (l := leavesT v.p) (i := j) (by omega)
          have hui : lv.l[j]? = some (i : Int) := by rw [hplv]; exact toI_get hi
          have hmem := List.mem_of_getElem? hi
          have hji := join_iff hs hmem
          refine At.skim 2 rfl rfl ?_
          refine At.quiet (q_convInt Try.underlying3 Try.underlying29 rfl) rfl ?_
          refine At.quiet (q_quo rfl rfl (by omega)) rfl ?_
          refine At.skim 1 rfl rfl ?_
          refine At.quiet (q_len Try.underlying37 rfl) rfl ?_
          refine At.quiet (q_convInt Try.underlying3 Try.underlying29 rfl) rfl ?_
          refine At.quiet (q_rem rfl rfl (by omega)) rfl ?_
          refine At.quiet (q_convInt Try.underlying29 Try.underlying3 rfl) rfl ?_
          refine At.say 48 (.int .i64 (j : Int)) rfl (congrArg (Value.int .i64) hje) ?_
          refine At.quiet (q_index Try.underlying37 t3 rfl (.head _) (by simp) rfl rfl (lt_of_get hui)) rfl ?_
          refine At.quiet (q_load t3 rfl (Rd.sl0 (.head _) (map_get hui) rfl)) rfl ?_
          refine At.skim 1 rfl rfl ?_
          refine At.nil ?_
          refine At.then ?_
          refine At.seq ?_
          refine At.region ?_
          refine At.loud (l_alloc t24) rfl ?_
          rintro _ _ _ ⟨b2, rfl, rfl, rfl⟩
          refine At.nil ?_
          refine At.then ?_
          refine At.seq ?_
          refine At.region ?_
          refine At.skim 1 rfl rfl ?_
          refine At.nil ?_
          refine At.then ?_
          refine At.seq ?_
          refine At.region ?_
          refine At.skim 1 rfl rfl ?_
          refine At.nil ?_
          refine At.then ?_
          refine At.seq ?_
          refine At.seq ?_
          refine At.region ?_
          refine At.skim 1 rfl rfl ?_
          refine At.quiet (q_and rfl rfl) rfl ?_
          refine At.skim 1 rfl rfl ?_
          refine At.nil ?_
          refine At.then ?_
          refine At.if rfl (fun hx2 => ?_) (fun hx2 => ?_)
          · skip
            refine At.region ?_
            refine At.quiet (q_loadS t24 rfl (RdS.loc (i := 1) rfl (m := 2) rfl) rfl) rfl ?_
            refine At.skim 1 rfl rfl ?_
            refine At.call en47 rfl (split47 _ (by assumption) _) (fun _ h => ⟨h.2.1, h.2.2.1, trivial⟩) (List.Perm.refl _) rfl ?_
            rintro _ _ _ ⟨u, rfl, rfl, rfl, hpu⟩
            refine At.skim 1 rfl rfl ?_
            refine At.quiet (q_extract rfl rfl) rfl ?_
            refine At.quiet (q_extract rfl rfl) rfl ?_
            refine At.loudN (l_store t24 rfl rfl (i := 0) rfl rfl rfl rfl) ?_
            rintro _ _ _ ⟨rfl, rfl⟩
            refine At.skim 1 rfl rfl ?_
            refine At.nil ?_
            refine At.then ?_
            refine At.seq ?_
            refine At.seq ?_
            refine At.region ?_
            refine At.skim 2 rfl rfl ?_
            refine At.nil ?_
            refine At.then ?_
            refine At.cond rfl (fun hok => ?_) (fun hok => ?_)
            · skip
              refine At.exit ?_
              refine At.thenExit ?_
              refine At.inHere rfl ?_
              refine At.then ?_
              refine At.region ?_
              refine At.quiet (q_add rfl rfl (by omega) (by omega)) rfl ?_
              refine At.skim 1 rfl rfl ?_
              refine At.nil ?_
              refine At.front 1 rfl ?_
              refine At.then ?_
              exact At.againK (k + 1, v) ⟨hk1, hvm, hva⟩ (by (try dsimp only); omega) (Tells.end 42 ⟨rfl, trivial⟩ rfl rfl) (fun _ h => ⟨h.2.2.2.1, ⟨h.2.2.2.2.1, h.2.2.2.2.2⟩⟩) (.cons_cons _ (.cons _ (.refl _)))
            · skip
              refine At.skip ?_
              refine At.then ?_
              refine At.seq ?_
              refine At.seq ?_
              refine At.region ?_
              obtain ⟨k1, k2, k3, k4⟩ := split_opt hpu (not_f hok)
              have hus : smallP u.ns.l := small_all k1 (by rw [k3, hva]; exact hall) (by omega)
              refine At.quiet (q_loadS t24 rfl (RdS.loc (i := 0) rfl (m := 2) rfl) rfl) rfl ?_
              refine At.call en21 rfl (may21 _) (fun _ h => ⟨h.1, h.2.1, trivial⟩) (List.Perm.refl _) rfl ?_
              rintro _ _ _ ⟨rfl, rfl, rfl⟩
              refine At.skim 2 rfl rfl ?_
              refine At.say 76 (.bool false) rfl (congrArg Value.bool (by rw [k1]; rfl)) ?_
              refine At.open rfl rfl ?_
              refine At.quiet (q_loadS t24 rfl (RdS.loc (i := 0) rfl (m := 2) rfl) rfl) rfl ?_
              refine At.open rfl rfl ?_
              refine At.call en28 rfl (leaves28f _) (fun _ h => ⟨h.1, h.2.1, trivial⟩) (List.Perm.refl _) rfl ?_
              rintro _ _ _ ⟨lu, rfl, rfl, rfl, hplu⟩
              have hlu : lu.l.length = (leavesT u.p).length := by rw [hplu, toI_length]
              refine At.open rfl rfl ?_
              refine At.quiet (q_len Try.underlying37 rfl) rfl ?_
              refine At.skim 1 rfl rfl ?_
              refine At.open rfl rfl ?_
              refine At.quiet (q_len Try.underlying37 rfl) rfl ?_
              refine At.skim 1 rfl rfl ?_
              refine At.open rfl rfl ?_
              refine At.quiet (q_add rfl rfl (by omega) (by omega)) rfl ?_
              refine At.skim 3 rfl rfl ?_
              refine At.say 86 (.bool false) rfl (congrArg Value.bool (decide_eq_false (by rw [hlu, hll]; omega))) ?_
              refine At.open rfl rfl ?_
              refine At.quiet (q_loadS t24 rfl (RdS.loc (i := 0) rfl (m := 2) rfl) rfl) rfl ?_
              refine At.open rfl rfl ?_
              refine At.call en29 rfl (all29f _ (by assumption)) (fun _ h => ⟨h.2.1, h.2.2.1, trivial⟩) (List.Perm.refl _) rfl ?_
              rintro _ _ _ ⟨au, rfl, rfl, rfl, hpau⟩
              refine At.skim 1 rfl rfl ?_
              refine At.open rfl rfl ?_
              refine At.call en33 rfl (same33 _ _) (fun _ h => ⟨h.1, h.2.2.2.2.2.2.2.1, trivial⟩) (List.Perm.refl _) rfl ?_
              rintro _ _ _ ⟨rfl, rfl, rfl⟩
              refine At.skim 2 rfl rfl ?_
              refine At.nil ?_
              refine At.then ?_
              refine At.say 92 (.bool false) rfl (congrArg Value.bool (by rw [hpau, hpal, k3, hva]; simp)) ?_
              refine At.condF rfl ?_
              refine At.skip ?_
              refine At.then ?_
              refine At.region ?_
              refine At.quiet (q_loadS t24 rfl (RdS.loc (i := 0) rfl (m := 2) rfl) rfl) rfl ?_
              refine At.loudN (l_store t24 rfl rfl (i := 1) rfl rfl rfl rfl) ?_
              rintro _ _ _ ⟨rfl, rfl⟩
              refine At.nil ?_
              refine At.inNormal ?_
              refine At.then ?_
              refine At.region ?_
              refine At.quiet (q_add rfl rfl (by omega) (by omega)) rfl ?_
              refine At.skim 1 rfl rfl ?_
              refine At.nil ?_
              refine At.front 1 rfl ?_
              refine At.then ?_
              exact At.againK (k + 1, u) ⟨hk1, k1, by rw [k3, hva]⟩ (by (try dsimp only); omega) (Tells.end 66 ⟨rfl, trivial⟩ rfl rfl) (fun _ h => ⟨h.2.2.1, ⟨h.2.2.2.1, h.2.2.2.2.2.2.2⟩⟩) (.cons_cons _ (.cons _ (.refl _)))
          · skip
            refine At.seq ?_
            refine At.region ?_
            refine At.quiet (q_loadS t24 rfl (RdS.loc (i := 1) rfl (m := 2) rfl) rfl) rfl ?_
            refine At.skim 1 rfl rfl ?_
            refine At.call en48 rfl (join48 _ (by assumption) _) (fun _ h => ⟨h.2.1, h.2.2.1, trivial⟩) (List.Perm.refl _) rfl ?_
            rintro _ _ _ ⟨u, rfl, rfl, rfl, hpu⟩
            refine At.skim 1 rfl rfl ?_
            refine At.quiet (q_extract rfl rfl) rfl ?_
            refine At.quiet (q_extract rfl rfl) rfl ?_
            refine At.loudN (l_store t24 rfl rfl (i := 0) rfl rfl rfl rfl) ?_
            rintro _ _ _ ⟨rfl, rfl⟩
            refine At.skim 1 rfl rfl ?_
            refine At.nil ?_
            refine At.then ?_
            refine At.seq ?_
            refine At.region ?_
            refine At.skim 1 rfl rfl ?_
            refine At.nil ?_
            refine At.then ?_
            refine At.seq ?_
            refine At.region ?_
            refine At.skim 2 rfl rfl ?_
            refine At.quiet (q_len Try.underlying37 rfl) rfl ?_
            refine At.skim 1 rfl rfl ?_
            refine At.quiet (q_neqBool Try.underlying4 rfl rfl) rfl ?_
            refine At.nil ?_
            refine At.then ?_
            refine At.say 70 (.bool false) rfl (congrArg Value.bool (by rw [hji, hll, dec1]; simp)) ?_
            refine At.condF rfl ?_
            refine At.skip ?_
            refine At.then ?_
            refine At.seq ?_
            refine At.seq ?_
            refine At.region ?_
            refine At.skim 2 rfl rfl ?_
            refine At.nil ?_
            refine At.then ?_
            refine At.cond rfl (fun hok => ?_) (fun hok => ?_)
            · skip
              refine At.exit ?_
              refine At.thenExit ?_
              refine At.inHere rfl ?_
              refine At.then ?_
              refine At.region ?_
              refine At.quiet (q_add rfl rfl (by omega) (by omega)) rfl ?_
              refine At.skim 1 rfl rfl ?_
              refine At.nil ?_
              refine At.front 1 rfl ?_
              refine At.then ?_
              exact At.againK (k + 1, v) ⟨hk1, hvm, hva⟩ (by (try dsimp only); omega) (Tells.end 49 ⟨rfl, trivial⟩ rfl rfl) (fun _ h => ⟨h.2.2.2.1, ⟨h.2.2.2.2.1, h.2.2.2.2.2⟩⟩) (.cons_cons _ (.cons _ (.refl _)))
            · skip
              refine At.skip ?_
              refine At.then ?_
              refine At.seq ?_
              refine At.seq ?_
              refine At.region ?_
              obtain ⟨k1, k2, k3, k4⟩ := join_opt hpu (not_f hok)
              have hus : smallP u.ns.l := small_all k1 (by rw [k3, hva]; exact hall) (by omega)
              refine At.quiet (q_loadS t24 rfl (RdS.loc (i := 0) rfl (m := 2) rfl) rfl) rfl ?_
              refine At.call en21 rfl (may21 _) (fun _ h => ⟨h.1, h.2.1, trivial⟩) (List.Perm.refl _) rfl ?_
              rintro _ _ _ ⟨rfl, rfl, rfl⟩
              refine At.skim 2 rfl rfl ?_
              refine At.say 76 (.bool false) rfl (congrArg Value.bool (by rw [k1]; rfl)) ?_
              refine At.open rfl rfl ?_
              refine At.quiet (q_loadS t24 rfl (RdS.loc (i := 0) rfl (m := 2) rfl) rfl) rfl ?_
              refine At.open rfl rfl ?_
              refine At.call en28 rfl (leaves28f _) (fun _ h => ⟨h.1, h.2.1, trivial⟩) (List.Perm.refl _) rfl ?_
              rintro _ _ _ ⟨lu, rfl, rfl, rfl, hplu⟩
              have hlu : lu.l.length = (leavesT u.p).length := by rw [hplu, toI_length]
              refine At.open rfl rfl ?_
              refine At.quiet (q_len Try.underlying37 rfl) rfl ?_
              refine At.skim 1 rfl rfl ?_
              refine At.open rfl rfl ?_
              refine At.quiet (q_len Try.underlying37 rfl) rfl ?_
              refine At.skim 1 rfl rfl ?_
              refine At.open rfl rfl ?_
              refine At.quiet (q_add rfl rfl (by omega) (by omega)) rfl ?_
              refine At.skim 3 rfl rfl ?_
              refine At.say 86 (.bool false) rfl (congrArg Value.bool (decide_eq_false (by rw [hlu, hll]; omega))) ?_
              refine At.open rfl rfl ?_
              refine At.quiet (q_loadS t24 rfl (RdS.loc (i := 0) rfl (m := 2) rfl) rfl) rfl ?_
              refine At.open rfl rfl ?_
              refine At.call en29 rfl (all29f _ (by assumption)) (fun _ h => ⟨h.2.1, h.2.2.1, trivial⟩) (List.Perm.refl _) rfl ?_
              rintro _ _ _ ⟨au, rfl, rfl, rfl, hpau⟩
              refine At.skim 1 rfl rfl ?_
              refine At.open rfl rfl ?_
              refine At.call en33 rfl (same33 _ _) (fun _ h => ⟨h.1, h.2.2.2.2.2.2.2.1, trivial⟩) (List.Perm.refl _) rfl ?_
              rintro _ _ _ ⟨rfl, rfl, rfl⟩
              refine At.skim 2 rfl rfl ?_
              refine At.nil ?_
              refine At.then ?_
              refine At.say 92 (.bool false) rfl (congrArg Value.bool (by rw [hpau, hpal, k3, hva]; simp)) ?_
              refine At.condF rfl ?_
              refine At.skip ?_
              refine At.then ?_
              refine At.region ?_
              refine At.quiet (q_loadS t24 rfl (RdS.loc (i := 0) rfl (m := 2) rfl) rfl) rfl ?_
              refine At.loudN (l_store t24 rfl rfl (i := 1) rfl rfl rfl rfl) ?_
              rintro _ _ _ ⟨rfl, rfl⟩
              refine At.nil ?_
              refine At.inNormal ?_
              refine At.then ?_
              refine At.region ?_
              refine At.quiet (q_add rfl rfl (by omega) (by omega)) rfl ?_
              refine At.skim 1 rfl rfl ?_
              refine At.nil ?_
              refine At.front 1 rfl ?_
              refine At.then ?_
              exact At.againK (k + 1, u) ⟨hk1, k1, by rw [k3, hva]⟩ (by (try dsimp only); omega) (Tells.end 73 ⟨rfl, trivial⟩ rfl rfl) (fun _ h => ⟨h.2.2.1, ⟨h.2.2.2.1, h.2.2.2.2.2.2.2⟩⟩) (.cons_cons _ (.cons _ (.refl _)))
        · skip
          refine At.exit ?_
          refine At.thenExit ?_
          refine At.thenExit ?_
          refine At.inHere rfl ?_
          refine At.then ?_
          refine At.seq ?_
          refine At.region ?_
          refine At.call en45 rfl (awake45) (fun _ _ => trivial) (List.Perm.refl _) rfl ?_
          rintro _ _ _ ⟨rfl, rfl, rfl⟩
          refine At.skim 1 rfl rfl ?_
          refine At.nil ?_
          refine At.then ?_
          refine At.ret ?_
          exact At.results (Γr := []) (M := []) rfl (RVals.cons (RVal.tmp rfl) RVals.nil) (.tail _ (.tail _ (.tail _ (.head _)))) (fun _ _ => trivial) (.cons _ (.refl _)) ⟨rfl, rfl, rfl⟩

end Go.Proofs.Ytmkodknmknfdkaa
