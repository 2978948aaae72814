/- The walks of the small functions. -/
import Derived.Test.YtmkodknmknfdkaaB0
set_option linter.unusedVariables false
set_option linter.unusedSimpArgs false
namespace Go.Proofs.Ytmkodknmknfdkaa
open E
set_option maxRecDepth 4000

theorem mixed : Try.prog.follows .mixedOrders = true := by kernel_rfl
theorem t3 : tRow Try.prog 3 = some (true, 1, 8, .int .i64 0) := by kernel_rfl
theorem t4 : tRow Try.prog 4 = some (true, 1, 1, .bool false) := by kernel_rfl
theorem t31 : tRow Try.prog 31 = some (true, 1, 24, .slice none 0 0) := by kernel_rfl
theorem t33 : tRow Try.prog 33 = some (false, 6, 64, .agg #[.bool false, .int .i64 0, .int .i64 0, .int .i64 0, .slice none 0 0, .int .i64 0]) := by kernel_rfl
theorem t50 : tRow Try.prog 50 = some (false, 2, 16, .agg #[.int .i64 0, .int .i64 0]) := by kernel_rfl
theorem t100 : tRow Try.prog 100 = some (false, 4, 24, .agg #[.int .i64 0, .int .i64 0, .bool false, .bool false]) := by kernel_rfl
theorem s33 : sRow Try.prog 33 = some [(0, 1, true), (1, 1, true), (2, 1, true), (3, 1, true), (4, 1, true), (5, 1, true)] := by kernel_rfl
theorem s50 : sRow Try.prog 50 = some [(0, 1, true), (1, 1, true)] := by kernel_rfl
theorem s100 : sRow Try.prog 100 = some [(0, 1, true), (1, 1, true), (2, 1, true), (3, 1, true)] := by kernel_rfl
theorem e50 : intStruct Try.prog 50 2 = true := by kernel_rfl
theorem en33 : Enters Try.prog 33 := Enters.mk' Try.func33 rfl rfl
theorem en72 : Enters Try.prog 72 := Enters.mk' Try.func72 rfl rfl
theorem en104 : Enters Try.prog 104 := Enters.mk' Try.func104 rfl rfl
theorem en105 : Enters Try.prog 105 := Enters.mk' Try.func105 rfl rfl
theorem en106 : Enters Try.prog 106 := Enters.mk' Try.func106 rfl rfl
theorem en115 : Enters Try.prog 115 := Enters.mk' Try.func115 rfl rfl
theorem en116 : Enters Try.prog 116 := Enters.mk' Try.func116 rfl rfl

theorem has105 (k : Kb) (key : Int) : Con Try.prog 105 [k.val, .int .i64 key] [] [] (fun v Γ M => v = .bool (k.has key) ∧ Γ = [] ∧ M = []) := by
  refine Con.body 25 Try.func105 rfl Try.ntmps105 rfl fun X H₀ L₀ => ?_
  refine At.seq ?_
  refine At.region ?_
  refine At.loud (l_box rfl) rfl ?_
  rintro _ _ _ ⟨b1, rfl, rfl, rfl⟩
  refine At.freeze 0 (φ := blk b1 _) rfl (fun _ h => blk_def.2 ⟨_, _, h⟩) ?_
  refine At.skim 1 rfl rfl ?_
  refine At.nil ?_
  refine At.then ?_
  refine At.seq ?_
  refine At.region ?_
  refine At.fld s100 t4 rfl rfl rfl (Rd.blk (.head _) rfl) rfl rfl ?_
  refine At.skim 2 rfl rfl ?_
  refine At.split (d := 8) rfl (fun h1 => ?_) (fun h1 => ?_)
  · skip
    refine At.skim 6 rfl rfl ?_
    refine At.open rfl rfl ?_
    refine At.quiet (q_fieldAddr s100 rfl rfl rfl) rfl ?_
    refine At.open rfl rfl ?_
    refine At.quiet (q_load t4 rfl (Rd.blk (.head _) rfl)) rfl ?_
    refine At.skim 2 rfl rfl ?_
    refine At.split (d := 18) rfl (fun h2 => ?_) (fun h2 => ?_)
    · skip
      refine At.skim 7 rfl rfl ?_
      refine At.nil ?_
      refine At.then ?_
      refine At.ret ?_
      exact At.results (Γr := []) (M := []) rfl (RVals.cons (RVal.tmp rfl) RVals.nil) (.tail _ (.head _)) (fun _ _ => trivial) (.refl _) ⟨congrArg Value.bool (by simp_all [Kb.has] <;> omega), rfl, rfl⟩
    · skip
      refine At.skim 1 rfl rfl ?_
      refine At.open rfl rfl ?_
      refine At.quiet (q_fieldAddr s100 rfl rfl rfl) rfl ?_
      refine At.open rfl rfl ?_
      refine At.quiet (q_load t3 rfl (Rd.blk (.head _) rfl)) rfl ?_
      refine At.skim 4 rfl rfl ?_
      refine At.nil ?_
      refine At.then ?_
      refine At.ret ?_
      exact At.results (Γr := []) (M := []) rfl (RVals.cons (RVal.tmp rfl) RVals.nil) (.tail _ (.head _)) (fun _ _ => trivial) (.refl _) ⟨congrArg Value.bool (by simp_all [Kb.has] <;> omega), rfl, rfl⟩
  · skip
    refine At.skim 1 rfl rfl ?_
    refine At.open rfl rfl ?_
    refine At.quiet (q_fieldAddr s100 rfl rfl rfl) rfl ?_
    refine At.open rfl rfl ?_
    refine At.quiet (q_load t3 rfl (Rd.blk (.head _) rfl)) rfl ?_
    refine At.skim 3 rfl rfl ?_
    refine At.splitP (d := 14) rfl (fun h3 => ?_) (fun h3 => ?_)
    · skip
      refine At.open rfl rfl ?_
      refine At.quiet (q_fieldAddr s100 rfl rfl rfl) rfl ?_
      refine At.open rfl rfl ?_
      refine At.quiet (q_load t4 rfl (Rd.blk (.head _) rfl)) rfl ?_
      refine At.skim 2 rfl rfl ?_
      refine At.split (d := 18) rfl (fun h4 => ?_) (fun h4 => ?_)
      · skip
        refine At.skim 7 rfl rfl ?_
        refine At.nil ?_
        refine At.then ?_
        refine At.ret ?_
        exact At.results (Γr := []) (M := []) rfl (RVals.cons (RVal.tmp rfl) RVals.nil) (.tail _ (.head _)) (fun _ _ => trivial) (.refl _) ⟨congrArg Value.bool (by simp_all [Kb.has] <;> omega), rfl, rfl⟩
      · skip
        refine At.skim 1 rfl rfl ?_
        refine At.open rfl rfl ?_
        refine At.quiet (q_fieldAddr s100 rfl rfl rfl) rfl ?_
        refine At.open rfl rfl ?_
        refine At.quiet (q_load t3 rfl (Rd.blk (.head _) rfl)) rfl ?_
        refine At.skim 4 rfl rfl ?_
        refine At.nil ?_
        refine At.then ?_
        refine At.ret ?_
        exact At.results (Γr := []) (M := []) rfl (RVals.cons (RVal.tmp rfl) RVals.nil) (.tail _ (.head _)) (fun _ _ => trivial) (.refl _) ⟨congrArg Value.bool (by simp_all [Kb.has] <;> omega), rfl, rfl⟩
    · skip
      refine At.skim 11 rfl rfl ?_
      refine At.nil ?_
      refine At.then ?_
      refine At.ret ?_
      exact At.results (Γr := []) (M := []) rfl (RVals.cons (RVal.tmp rfl) RVals.nil) (.tail _ (.head _)) (fun _ _ => trivial) (.refl _) ⟨congrArg Value.bool (by simp_all [Kb.has] <;> omega), rfl, rfl⟩

theorem out104 (k : Kb) (x : Pr) (b : Nat) : Con Try.prog 104 [x.val, .pointer (some ⟨b, 0, none⟩)] [blk b k.val.cells] [] (fun v Γ M => v = .bool (!k.has x.k) ∧ Γ = [] ∧ M = []) := by
  refine Con.body 9 Try.func104 rfl Try.ntmps104 rfl fun X H₀ L₀ => ?_
  refine At.seq ?_
  refine At.region ?_
  refine At.loud (l_box rfl) rfl ?_
  rintro _ _ _ ⟨b1, rfl, rfl, rfl⟩
  refine At.freeze 0 (φ := blk b1 _) rfl (fun _ h => blk_def.2 ⟨_, _, h⟩) ?_
  refine At.skim 1 rfl rfl ?_
  refine At.nil ?_
  refine At.then ?_
  refine At.seq ?_
  refine At.region ?_
  refine At.quiet (q_loadS t100 rfl (RdS.blk (.tail _ (.tail _ (.head _))) (m := 4) rfl) rfl) rfl ?_
  refine At.fld s50 t3 rfl rfl rfl (Rd.blk (.head _) rfl) rfl rfl ?_
  refine At.call en105 rfl (has105 k _) (fun _ _ => trivial) (List.Perm.refl _) rfl ?_
  rintro _ _ _ ⟨rfl, rfl, rfl⟩
  refine At.skim 2 rfl rfl ?_
  refine At.nil ?_
  refine At.then ?_
  refine At.ret ?_
  exact At.results (Γr := []) (M := []) rfl (RVals.cons (RVal.tmp rfl) RVals.nil) (.tail _ (.head _)) (fun _ _ => trivial) (.refl _) ⟨rfl, rfl, rfl⟩

theorem index115 (l : Sl Pr) (f : FuncId) (cap : List Value) (p : Pr → Bool) (φ : SProp) (hen : Enters Try.prog f) (hcon : ∀ x, Con Try.prog f (x.val :: cap) [φ] [] (fun v Γ M => v = .bool (p x) ∧ Γ = [] ∧ M = [])) : Con Try.prog 115 [l.val, .func (.func f) #[] cap.toArray] [prsP l, φ] [] (fun v Γ M => v = .int .i64 (idxI p l.l) ∧ Γ = [] ∧ M = []) := by
  refine Con.body 19 Try.func115 rfl Try.ntmps115 rfl fun X H₀ L₀ => ?_
  refine At.lenOf (hs := (.tail _ (.head _))) fun hlen => ?_
  rw [List.length_map] at hlen
  refine At.seq ?_
  refine At.region ?_
  refine At.skim 1 rfl rfl ?_
  refine At.nil ?_
  refine At.then ?_
  refine At.seq ?_
  refine At.seq ?_
  refine At.region ?_
  refine At.skim 1 rfl rfl ?_
  refine At.quiet (q_len Try.underlying31 rfl) rfl ?_
  refine At.skim 1 rfl rfl ?_
  refine At.nil ?_
  refine At.then ?_
  refine At.block ?_
  refine At.loopK (ι := Nat) [4, 5, 8, 9, 10, 11, 12, 13, 14, 15, 16, 17, 18] (fun k => [(8, .int .i64 (k : Int))]) (fun k => []) (fun k => []) _ (fun k => k ≤ l.l.length ∧ ∀ y ∈ l.l.take k, p y = false) (fun k => l.l.length - k) 0 ⟨Nat.zero_le _, by simp⟩ ⟨rfl, trivial⟩ (fun _ _ => trivial) (.refl _) ?_
  intro k hI
  refine At.seq ?_
  refine At.region ?_
  refine At.skim 1 rfl rfl ?_
  refine At.nil ?_
  refine At.then ?_
  refine At.seq ?_
  refine At.if rfl (fun hk => ?_) (fun hk => ?_)
  · skip
    obtain ⟨x, hx⟩ := get_of_lt (l := l.l) (i := k) (by omega)
    have hk1 := lt_of_get hx
    refine At.skip ?_
    refine At.then ?_
    refine At.seq ?_
    refine At.block ?_
    refine At.seq ?_
    refine At.region ?_
    refine At.skim 2 rfl rfl ?_
    refine At.nil ?_
    refine At.then ?_
    refine At.seq ?_
    refine At.region ?_
    refine At.skim 3 rfl rfl ?_
    refine At.quiet (q_index Try.underlying31 t50 rfl (.tail _ (.head _)) (by simp) rfl rfl (lt_of_get hx)) rfl ?_
    refine At.quiet (q_loadS t50 rfl (RdS.sl0 (.tail _ (.head _)) (map_get hx)) rfl) rfl ?_
    refine At.callV hen rfl rfl (by simp [Pr.val, rowP]) (hcon x) (fun _ h => ⟨h.2.2.1, trivial⟩) (List.Perm.refl _) rfl ?_
    rintro _ _ _ ⟨rfl, rfl, rfl⟩
    refine At.nil ?_
    refine At.then ?_
    refine At.cond rfl (fun hp => ?_) (fun hp => ?_)
    · skip
      refine At.seq ?_
      refine At.region ?_
      refine At.skim 2 rfl rfl ?_
      refine At.nil ?_
      refine At.then ?_
      refine At.ret ?_
      refine At.inRet ?_
      refine At.thenRet ?_
      refine At.thenRet ?_
      refine At.inRet ?_
      refine At.thenRet ?_
      exact At.results (Γr := []) (M := []) rfl (RVals.cons (RVal.tmp rfl) RVals.nil) (.head _) (fun _ _ => trivial) (.refl _) ⟨congrArg (Value.int .i64) (idx_at hx hp hI.2).symm, rfl, rfl⟩
    · skip
      refine At.skip ?_
      refine At.inNormal ?_
      refine At.then ?_
      refine At.region ?_
      refine At.quiet (q_add rfl rfl (by omega) (by omega)) rfl ?_
      refine At.skim 1 rfl rfl ?_
      refine At.nil ?_
      refine At.then ?_
      exact At.againK (k + 1) ⟨hk1, idx_step hx hp hI.2⟩ (by (try dsimp only); omega) (Tells.end 12 ⟨rfl, trivial⟩ rfl rfl) (fun _ h => h) (.refl _)
  · skip
    refine At.exit ?_
    refine At.thenExit ?_
    refine At.thenExit ?_
    refine At.inHere rfl ?_
    refine At.then ?_
    refine At.seq ?_
    refine At.region ?_
    refine At.skim 1 rfl rfl ?_
    refine At.nil ?_
    refine At.then ?_
    refine At.ret ?_
    exact At.results (Γr := []) (M := []) rfl (RVals.cons (RVal.tmp rfl) RVals.nil) (.head _) (fun _ _ => trivial) (.refl _) ⟨congrArg (Value.int .i64) (idx_no (by have h := hI.2; rwa [List.take_of_length_le (by omega)] at h)).symm, rfl, rfl⟩

theorem some103 (l : Sl Pr) (f : FuncId) (cap : List Value) (p : Pr → Bool) (φ : SProp) (hen : Enters Try.prog f) (hcon : ∀ x, Con Try.prog f (x.val :: cap) [φ] [] (fun v Γ M => v = .bool (p x) ∧ Γ = [] ∧ M = [])) : Con Try.prog 103 [l.val, .func (.func f) #[] cap.toArray] [prsP l, φ] [] (fun v Γ M => v = .bool (l.l.any p) ∧ Γ = [] ∧ M = []) := by
  refine Con.body 9 Try.func103 rfl Try.ntmps103 rfl fun X H₀ L₀ => ?_
  refine At.seq ?_
  refine At.region ?_
  refine At.skim 1 rfl rfl ?_
  refine At.nil ?_
  refine At.then ?_
  refine At.seq ?_
  refine At.region ?_
  refine At.skim 2 rfl rfl ?_
  refine At.call en115 rfl (index115 l f cap p φ hen hcon) (fun _ h => ⟨h.2.1, h.2.2.1, trivial⟩) (List.Perm.refl _) rfl ?_
  rintro _ _ _ ⟨rfl, rfl, rfl⟩
  refine At.skim 2 rfl rfl ?_
  refine At.nil ?_
  refine At.then ?_
  refine At.ret ?_
  exact At.results (Γr := []) (M := []) rfl (RVals.cons (RVal.tmp rfl) RVals.nil) (.head _) (fun _ _ => trivial) (.refl _) ⟨congrArg Value.bool (idx_any p l.l), rfl, rfl⟩

theorem may71 (l : Sl Pr) : Con Try.prog 71 [l.val] [prsP l] [] (fun v Γ M => v = .bool (rises l.l) ∧ Γ = [] ∧ M = []) := by
  refine Con.body 22 Try.func71 rfl Try.ntmps71 rfl fun X H₀ L₀ => ?_
  refine At.lenOf (hs := (.tail _ (.head _))) fun hlen => ?_
  rw [List.length_map] at hlen
  refine At.seq ?_
  refine At.region ?_
  refine At.skim 1 rfl rfl ?_
  refine At.nil ?_
  refine At.then ?_
  refine At.seq ?_
  refine At.seq ?_
  refine At.region ?_
  refine At.skim 1 rfl rfl ?_
  refine At.nil ?_
  refine At.then ?_
  refine At.block ?_
  refine At.loopK (ι := Nat) [2, 3, 4, 5, 6, 7, 8, 9, 10, 11, 12, 13, 14, 15, 16, 17, 18, 19, 20, 21] (fun k => [(3, .int .i64 (k : Int))]) (fun k => []) (fun k => []) _ (fun k => 1 ≤ k ∧ ∀ (i : Nat) (a b : Pr), i + 1 < k → l.l[i]? = some a → l.l[i + 1]? = some b → a.k < b.k) (fun k => l.l.length - k) 1 ⟨Nat.le_refl _, fun i a b h => by omega⟩ ⟨rfl, trivial⟩ (fun _ _ => trivial) (.refl _) ?_
  intro k hI
  obtain ⟨hk0, hI⟩ := hI
  refine At.seq ?_
  refine At.seq ?_
  refine At.region ?_
  refine At.skim 2 rfl rfl ?_
  refine At.quiet (q_len Try.underlying31 rfl) rfl ?_
  refine At.skim 1 rfl rfl ?_
  refine At.nil ?_
  refine At.then ?_
  refine At.if rfl (fun hk => ?_) (fun hk => ?_)
  · skip
    obtain ⟨j, rfl⟩ : ∃ j, k = j + 1 := ⟨k - 1, by omega⟩
    obtain ⟨x, hx⟩ := get_of_lt (l := l.l) (i := j) (by omega)
    obtain ⟨y, hy⟩ := get_of_lt (l := l.l) (i := j + 1) (by omega)
    have hj1 := lt_of_get hy
    refine At.skip ?_
    refine At.then ?_
    refine At.seq ?_
    refine At.block ?_
    refine At.seq ?_
    refine At.draw 11 (.q 0 (.q 1 (.q 2 (.q 3 (.q 4 (.q 5 (.q 6 (.q 7 (.q 8 (.q 9 (.q 10 (.e)))))))))))) _ (List.Sublist.refl _) mixed (by kernel_rfl) rfl ?_
    refine AtO.quiet rfl (q_move rfl) rfl (Calm.then (Calm.inBlock (Calm.then (Calm.then (Calm.inBlock (Calm.then Post.calm)))))) ?_
    refine AtO.quiet rfl (q_move rfl) rfl (Calm.then (Calm.inBlock (Calm.then (Calm.then (Calm.inBlock (Calm.then Post.calm)))))) ?_
    refine AtO.quiet rfl (q_sub rfl rfl (by omega) (by omega)) rfl (Calm.then (Calm.inBlock (Calm.then (Calm.then (Calm.inBlock (Calm.then Post.calm)))))) ?_
    refine AtO.quiet rfl (q_index Try.underlying31 t50 rfl (.tail _ (.head _)) (by simp) rfl (by omega) (lt_of_get hx)) rfl (Calm.then (Calm.inBlock (Calm.then (Calm.then (Calm.inBlock (Calm.then Post.calm)))))) ?_
    refine AtO.quiet rfl (q_fieldAddr s50 rfl rfl rfl) rfl (Calm.then (Calm.inBlock (Calm.then (Calm.then (Calm.inBlock (Calm.then Post.calm)))))) ?_
    refine AtO.quiet rfl (q_load t3 rfl (Rd.sl (.tail _ (.head _)) (map_get hx) rfl)) rfl (Calm.then (Calm.inBlock (Calm.then (Calm.then (Calm.inBlock (Calm.then Post.calm)))))) ?_
    refine AtO.quiet rfl (q_move rfl) rfl (Calm.then (Calm.inBlock (Calm.then (Calm.then (Calm.inBlock (Calm.then Post.calm)))))) ?_
    refine AtO.quiet rfl (q_move rfl) rfl (Calm.then (Calm.inBlock (Calm.then (Calm.then (Calm.inBlock (Calm.then Post.calm)))))) ?_
    refine AtO.quiet rfl (q_index Try.underlying31 t50 rfl (.tail _ (.head _)) (by simp) rfl rfl (lt_of_get hy)) rfl (Calm.then (Calm.inBlock (Calm.then (Calm.then (Calm.inBlock (Calm.then Post.calm)))))) ?_
    refine AtO.quiet rfl (q_fieldAddr s50 rfl rfl rfl) rfl (Calm.then (Calm.inBlock (Calm.then (Calm.then (Calm.inBlock (Calm.then Post.calm)))))) ?_
    refine AtO.quiet rfl (q_load t3 rfl (Rd.sl (.tail _ (.head _)) (map_get hy) rfl)) rfl (Calm.then (Calm.inBlock (Calm.then (Calm.then (Calm.inBlock (Calm.then Post.calm)))))) ?_
    refine AtO.done ?_
    refine At.skim 1 rfl rfl ?_
    refine At.nil ?_
    refine At.then ?_
    refine At.if rfl (fun hc => ?_) (fun hc => ?_)
    · skip
      refine At.seq ?_
      refine At.region ?_
      refine At.skim 1 rfl rfl ?_
      refine At.nil ?_
      refine At.then ?_
      refine At.ret ?_
      refine At.inRet ?_
      refine At.thenRet ?_
      refine At.thenRet ?_
      refine At.inRet ?_
      refine At.thenRet ?_
      exact At.results (Γr := []) (M := []) rfl (RVals.cons (RVal.tmp rfl) RVals.nil) (.head _) (fun _ _ => trivial) (.refl _) ⟨congrArg Value.bool ((rises_no hx hy (by omega)).symm), rfl, rfl⟩
    · skip
      refine At.skip ?_
      refine At.inNormal ?_
      refine At.then ?_
      refine At.region ?_
      refine At.skim 1 rfl rfl ?_
      refine At.quiet (q_add rfl rfl (by omega) (by omega)) rfl ?_
      refine At.skim 1 rfl rfl ?_
      refine At.nil ?_
      refine At.then ?_
      exact At.againK (j + 2) ⟨by omega, stepRise hI hx hy (by omega)⟩ (by (try dsimp only); omega) (Tells.end 20 ⟨rfl, trivial⟩ rfl rfl) (fun _ h => h) (.refl _)
  · skip
    refine At.exit ?_
    refine At.thenExit ?_
    refine At.thenExit ?_
    refine At.inHere rfl ?_
    refine At.then ?_
    refine At.seq ?_
    refine At.region ?_
    refine At.skim 1 rfl rfl ?_
    refine At.nil ?_
    refine At.then ?_
    refine At.ret ?_
    exact At.results (Γr := []) (M := []) rfl (RVals.cons (RVal.tmp rfl) RVals.nil) (.head _) (fun _ _ => trivial) (.refl _) ⟨congrArg Value.bool ((rises_iff.2 fun i a b ha hb => hI i a b (by have := lt_of_get hb; omega) ha hb).symm), rfl, rfl⟩

theorem may30 (l : Sl Pr) : Con Try.prog 30 [l.val] [prsP l] [] (fun v Γ M => v = .bool (rises l.l) ∧ Γ = [] ∧ M = []) := by
  refine Con.body 22 Try.func30 rfl Try.ntmps30 rfl fun X H₀ L₀ => ?_
  refine At.lenOf (hs := (.tail _ (.head _))) fun hlen => ?_
  rw [List.length_map] at hlen
  refine At.seq ?_
  refine At.region ?_
  refine At.skim 1 rfl rfl ?_
  refine At.nil ?_
  refine At.then ?_
  refine At.seq ?_
  refine At.seq ?_
  refine At.region ?_
  refine At.skim 1 rfl rfl ?_
  refine At.nil ?_
  refine At.then ?_
  refine At.block ?_
  refine At.loopK (ι := Nat) [2, 3, 4, 5, 6, 7, 8, 9, 10, 11, 12, 13, 14, 15, 16, 17, 18, 19, 20, 21] (fun k => [(3, .int .i64 (k : Int))]) (fun k => []) (fun k => []) _ (fun k => 1 ≤ k ∧ ∀ (i : Nat) (a b : Pr), i + 1 < k → l.l[i]? = some a → l.l[i + 1]? = some b → a.k < b.k) (fun k => l.l.length - k) 1 ⟨Nat.le_refl _, fun i a b h => by omega⟩ ⟨rfl, trivial⟩ (fun _ _ => trivial) (.refl _) ?_
  intro k hI
  obtain ⟨hk0, hI⟩ := hI
  refine At.seq ?_
  refine At.seq ?_
  refine At.region ?_
  refine At.skim 2 rfl rfl ?_
  refine At.quiet (q_len Try.underlying31 rfl) rfl ?_
  refine At.skim 1 rfl rfl ?_
  refine At.nil ?_
  refine At.then ?_
  refine At.if rfl (fun hk => ?_) (fun hk => ?_)
  · skip
    obtain ⟨j, rfl⟩ : ∃ j, k = j + 1 := ⟨k - 1, by omega⟩
    obtain ⟨x, hx⟩ := get_of_lt (l := l.l) (i := j) (by omega)
    obtain ⟨y, hy⟩ := get_of_lt (l := l.l) (i := j + 1) (by omega)
    have hj1 := lt_of_get hy
    refine At.skip ?_
    refine At.then ?_
    refine At.seq ?_
    refine At.block ?_
    refine At.seq ?_
    refine At.draw 11 (.q 0 (.q 1 (.q 2 (.q 3 (.q 4 (.q 5 (.q 6 (.q 7 (.q 8 (.q 9 (.q 10 (.e)))))))))))) _ (List.Sublist.refl _) mixed (by kernel_rfl) rfl ?_
    refine AtO.quiet rfl (q_move rfl) rfl (Calm.then (Calm.inBlock (Calm.then (Calm.then (Calm.inBlock (Calm.then Post.calm)))))) ?_
    refine AtO.quiet rfl (q_move rfl) rfl (Calm.then (Calm.inBlock (Calm.then (Calm.then (Calm.inBlock (Calm.then Post.calm)))))) ?_
    refine AtO.quiet rfl (q_index Try.underlying31 t50 rfl (.tail _ (.head _)) (by simp) rfl rfl (lt_of_get hy)) rfl (Calm.then (Calm.inBlock (Calm.then (Calm.then (Calm.inBlock (Calm.then Post.calm)))))) ?_
    refine AtO.quiet rfl (q_fieldAddr s50 rfl rfl rfl) rfl (Calm.then (Calm.inBlock (Calm.then (Calm.then (Calm.inBlock (Calm.then Post.calm)))))) ?_
    refine AtO.quiet rfl (q_load t3 rfl (Rd.sl (.tail _ (.head _)) (map_get hy) rfl)) rfl (Calm.then (Calm.inBlock (Calm.then (Calm.then (Calm.inBlock (Calm.then Post.calm)))))) ?_
    refine AtO.quiet rfl (q_move rfl) rfl (Calm.then (Calm.inBlock (Calm.then (Calm.then (Calm.inBlock (Calm.then Post.calm)))))) ?_
    refine AtO.quiet rfl (q_move rfl) rfl (Calm.then (Calm.inBlock (Calm.then (Calm.then (Calm.inBlock (Calm.then Post.calm)))))) ?_
    refine AtO.quiet rfl (q_sub rfl rfl (by omega) (by omega)) rfl (Calm.then (Calm.inBlock (Calm.then (Calm.then (Calm.inBlock (Calm.then Post.calm)))))) ?_
    refine AtO.quiet rfl (q_index Try.underlying31 t50 rfl (.tail _ (.head _)) (by simp) rfl (by omega) (lt_of_get hx)) rfl (Calm.then (Calm.inBlock (Calm.then (Calm.then (Calm.inBlock (Calm.then Post.calm)))))) ?_
    refine AtO.quiet rfl (q_fieldAddr s50 rfl rfl rfl) rfl (Calm.then (Calm.inBlock (Calm.then (Calm.then (Calm.inBlock (Calm.then Post.calm)))))) ?_
    refine AtO.quiet rfl (q_load t3 rfl (Rd.sl (.tail _ (.head _)) (map_get hx) rfl)) rfl (Calm.then (Calm.inBlock (Calm.then (Calm.then (Calm.inBlock (Calm.then Post.calm)))))) ?_
    refine AtO.done ?_
    refine At.skim 1 rfl rfl ?_
    refine At.nil ?_
    refine At.then ?_
    refine At.if rfl (fun hc => ?_) (fun hc => ?_)
    · skip
      refine At.seq ?_
      refine At.region ?_
      refine At.skim 1 rfl rfl ?_
      refine At.nil ?_
      refine At.then ?_
      refine At.ret ?_
      refine At.inRet ?_
      refine At.thenRet ?_
      refine At.thenRet ?_
      refine At.inRet ?_
      refine At.thenRet ?_
      exact At.results (Γr := []) (M := []) rfl (RVals.cons (RVal.tmp rfl) RVals.nil) (.head _) (fun _ _ => trivial) (.refl _) ⟨congrArg Value.bool ((rises_no hx hy (by omega)).symm), rfl, rfl⟩
    · skip
      refine At.skip ?_
      refine At.inNormal ?_
      refine At.then ?_
      refine At.region ?_
      refine At.skim 1 rfl rfl ?_
      refine At.quiet (q_add rfl rfl (by omega) (by omega)) rfl ?_
      refine At.skim 1 rfl rfl ?_
      refine At.nil ?_
      refine At.then ?_
      exact At.againK (j + 2) ⟨by omega, stepRise hI hx hy (by omega)⟩ (by (try dsimp only); omega) (Tells.end 20 ⟨rfl, trivial⟩ rfl rfl) (fun _ h => h) (.refl _)
  · skip
    refine At.exit ?_
    refine At.thenExit ?_
    refine At.thenExit ?_
    refine At.inHere rfl ?_
    refine At.then ?_
    refine At.seq ?_
    refine At.region ?_
    refine At.skim 1 rfl rfl ?_
    refine At.nil ?_
    refine At.then ?_
    refine At.ret ?_
    exact At.results (Γr := []) (M := []) rfl (RVals.cons (RVal.tmp rfl) RVals.nil) (.head _) (fun _ _ => trivial) (.refl _) ⟨congrArg Value.bool ((rises_iff.2 fun i a b ha hb => hI i a b (by have := lt_of_get hb; omega) ha hb).symm), rfl, rfl⟩

theorem same33 (a b : Sl Pr) : Con Try.prog 33 [a.val, b.val] [prsP a, prsP b] [] (fun v Γ M => v = .bool (decide (a.l = b.l)) ∧ Γ = [] ∧ M = []) := by
  refine Con.body 26 Try.func33 rfl Try.ntmps33 rfl fun X H₀ L₀ => ?_
  refine At.lenOf (hs := (.tail _ (.head _))) fun ha => ?_
  rw [List.length_map] at ha
  refine At.lenOf (hs := (.tail _ (.tail _ (.head _)))) fun hb => ?_
  rw [List.length_map] at hb
  refine At.seq ?_
  refine At.region ?_
  refine At.skim 1 rfl rfl ?_
  refine At.nil ?_
  refine At.then ?_
  refine At.seq ?_
  refine At.seq ?_
  refine At.region ?_
  refine At.skim 1 rfl rfl ?_
  refine At.quiet (q_len Try.underlying31 rfl) rfl ?_
  refine At.skim 1 rfl rfl ?_
  refine At.quiet (q_len Try.underlying31 rfl) rfl ?_
  refine At.skim 1 rfl rfl ?_
  refine At.nil ?_
  refine At.then ?_
  refine At.if rfl (fun hn => ?_) (fun hn => ?_)
  · skip
    refine At.seq ?_
    refine At.region ?_
    refine At.skim 1 rfl rfl ?_
    refine At.nil ?_
    refine At.then ?_
    refine At.ret ?_
    refine At.thenRet ?_
    exact At.results (Γr := []) (M := []) rfl (RVals.cons (RVal.tmp rfl) RVals.nil) (.head _) (fun _ _ => trivial) (.refl _) ⟨congrArg Value.bool ((decide_eq_false (len_ne (by simpa using hn))).symm), rfl, rfl⟩
  · skip
    have hab : a.l.length = b.l.length := by omega
    refine At.skip ?_
    refine At.then ?_
    refine At.seq ?_
    refine At.seq ?_
    refine At.region ?_
    refine At.skim 1 rfl rfl ?_
    refine At.quiet (q_len Try.underlying31 rfl) rfl ?_
    refine At.skim 1 rfl rfl ?_
    refine At.nil ?_
    refine At.then ?_
    refine At.block ?_
    refine At.loopK (ι := Nat) [4, 5, 13, 14, 15, 16, 17, 18, 19, 20, 21, 22, 23, 24, 25] (fun k => [(13, .int .i64 (k : Int))]) (fun k => []) (fun k => []) _ (fun k => k ≤ a.l.length ∧ a.l.take k = b.l.take k) (fun k => a.l.length - k) 0 ⟨Nat.zero_le _, by simp⟩ ⟨rfl, trivial⟩ (fun _ _ => trivial) (.refl _) ?_
    intro k hI
    refine At.seq ?_
    refine At.region ?_
    refine At.skim 1 rfl rfl ?_
    refine At.nil ?_
    refine At.then ?_
    refine At.seq ?_
    refine At.if rfl (fun hk => ?_) (fun hk => ?_)
    · skip
      obtain ⟨x, hx⟩ := get_of_lt (l := a.l) (i := k) (by omega)
      obtain ⟨y, hy⟩ := get_of_lt (l := b.l) (i := k) (by omega)
      have hk1 := lt_of_get hx
      refine At.skip ?_
      refine At.then ?_
      refine At.seq ?_
      refine At.block ?_
      refine At.seq ?_
      refine At.region ?_
      refine At.skim 2 rfl rfl ?_
      refine At.nil ?_
      refine At.then ?_
      refine At.seq ?_
      refine At.draw 8 (.q 0 (.q 1 (.q 2 (.q 3 (.q 4 (.q 5 (.q 6 (.q 7 (.e))))))))) _ (List.Sublist.refl _) mixed (by kernel_rfl) rfl ?_
      refine AtO.quiet rfl (q_move rfl) rfl (Calm.then (Calm.inBlock (Calm.then (Calm.then (Calm.inBlock (Calm.then Post.calm)))))) ?_
      refine AtO.quiet rfl (q_move rfl) rfl (Calm.then (Calm.inBlock (Calm.then (Calm.then (Calm.inBlock (Calm.then Post.calm)))))) ?_
      refine AtO.quiet rfl (q_index Try.underlying31 t50 rfl (.tail _ (.head _)) (by simp) rfl rfl (lt_of_get hx)) rfl (Calm.then (Calm.inBlock (Calm.then (Calm.then (Calm.inBlock (Calm.then Post.calm)))))) ?_
      refine AtO.quiet rfl (q_loadS t50 rfl (RdS.sl0 (.tail _ (.head _)) (map_get hx)) rfl) rfl (Calm.then (Calm.inBlock (Calm.then (Calm.then (Calm.inBlock (Calm.then Post.calm)))))) ?_
      refine AtO.quiet rfl (q_move rfl) rfl (Calm.then (Calm.inBlock (Calm.then (Calm.then (Calm.inBlock (Calm.then Post.calm)))))) ?_
      refine AtO.quiet rfl (q_move rfl) rfl (Calm.then (Calm.inBlock (Calm.then (Calm.then (Calm.inBlock (Calm.then Post.calm)))))) ?_
      refine AtO.quiet rfl (q_index Try.underlying31 t50 rfl (.tail _ (.tail _ (.head _))) (by simp) rfl rfl (lt_of_get hy)) rfl (Calm.then (Calm.inBlock (Calm.then (Calm.then (Calm.inBlock (Calm.then Post.calm)))))) ?_
      refine AtO.quiet rfl (q_loadS t50 rfl (RdS.sl0 (.tail _ (.tail _ (.head _))) (map_get hy)) rfl) rfl (Calm.then (Calm.inBlock (Calm.then (Calm.then (Calm.inBlock (Calm.then Post.calm)))))) ?_
      refine AtO.done ?_
      refine At.quiet (q_neqStruct e50 rfl rfl rfl rfl rfl rfl) rfl ?_
      refine At.nil ?_
      refine At.then ?_
      refine At.cond rfl (fun hxy => ?_) (fun hxy => ?_)
      · skip
        refine At.seq ?_
        refine At.region ?_
        refine At.skim 1 rfl rfl ?_
        refine At.nil ?_
        refine At.then ?_
        refine At.ret ?_
        refine At.inRet ?_
        refine At.thenRet ?_
        refine At.thenRet ?_
        refine At.inRet ?_
        refine At.thenRet ?_
        exact At.results (Γr := []) (M := []) rfl (RVals.cons (RVal.tmp rfl) RVals.nil) (.head _) (fun _ _ => trivial) (.refl _) ⟨congrArg Value.bool ((decide_eq_false (ne_at hx hy (fun e => by simp [e] at hxy))).symm), rfl, rfl⟩
      · skip
        refine At.skip ?_
        refine At.inNormal ?_
        refine At.then ?_
        refine At.region ?_
        refine At.quiet (q_add rfl rfl (by omega) (by omega)) rfl ?_
        refine At.skim 1 rfl rfl ?_
        refine At.nil ?_
        refine At.then ?_
        exact At.againK (k + 1) ⟨hk1, take_step hx ((Pr.eq_iff.1 (by simpa using hxy)).symm ▸ hy) hI.2⟩ (by (try dsimp only); omega) (Tells.end 15 ⟨rfl, trivial⟩ rfl rfl) (fun _ h => h) (.refl _)
    · skip
      refine At.exit ?_
      refine At.thenExit ?_
      refine At.thenExit ?_
      refine At.inHere rfl ?_
      refine At.then ?_
      refine At.seq ?_
      refine At.region ?_
      refine At.skim 1 rfl rfl ?_
      refine At.nil ?_
      refine At.then ?_
      refine At.ret ?_
      exact At.results (Γr := []) (M := []) rfl (RVals.cons (RVal.tmp rfl) RVals.nil) (.head _) (fun _ _ => trivial) (.refl _) ⟨congrArg Value.bool ((decide_eq_true (eq_of_takes hab (by omega) hI.2)).symm), rfl, rfl⟩

theorem same116 (a b : Sl Pr) : Con Try.prog 116 [a.val, b.val] [prsP a, prsP b] [] (fun v Γ M => v = .bool (decide (a.l = b.l)) ∧ Γ = [] ∧ M = []) := by
  refine Con.body 26 Try.func116 rfl Try.ntmps116 rfl fun X H₀ L₀ => ?_
  refine At.lenOf (hs := (.tail _ (.head _))) fun ha => ?_
  rw [List.length_map] at ha
  refine At.lenOf (hs := (.tail _ (.tail _ (.head _)))) fun hb => ?_
  rw [List.length_map] at hb
  refine At.seq ?_
  refine At.region ?_
  refine At.skim 1 rfl rfl ?_
  refine At.nil ?_
  refine At.then ?_
  refine At.seq ?_
  refine At.seq ?_
  refine At.region ?_
  refine At.skim 1 rfl rfl ?_
  refine At.quiet (q_len Try.underlying31 rfl) rfl ?_
  refine At.skim 1 rfl rfl ?_
  refine At.quiet (q_len Try.underlying31 rfl) rfl ?_
  refine At.skim 1 rfl rfl ?_
  refine At.nil ?_
  refine At.then ?_
  refine At.if rfl (fun hn => ?_) (fun hn => ?_)
  · skip
    refine At.seq ?_
    refine At.region ?_
    refine At.skim 1 rfl rfl ?_
    refine At.nil ?_
    refine At.then ?_
    refine At.ret ?_
    refine At.thenRet ?_
    exact At.results (Γr := []) (M := []) rfl (RVals.cons (RVal.tmp rfl) RVals.nil) (.head _) (fun _ _ => trivial) (.refl _) ⟨congrArg Value.bool ((decide_eq_false (len_ne (by simpa using hn))).symm), rfl, rfl⟩
  · skip
    have hab : a.l.length = b.l.length := by omega
    refine At.skip ?_
    refine At.then ?_
    refine At.seq ?_
    refine At.seq ?_
    refine At.region ?_
    refine At.skim 1 rfl rfl ?_
    refine At.quiet (q_len Try.underlying31 rfl) rfl ?_
    refine At.skim 1 rfl rfl ?_
    refine At.nil ?_
    refine At.then ?_
    refine At.block ?_
    refine At.loopK (ι := Nat) [4, 5, 13, 14, 15, 16, 17, 18, 19, 20, 21, 22, 23, 24, 25] (fun k => [(13, .int .i64 (k : Int))]) (fun k => []) (fun k => []) _ (fun k => k ≤ a.l.length ∧ a.l.take k = b.l.take k) (fun k => a.l.length - k) 0 ⟨Nat.zero_le _, by simp⟩ ⟨rfl, trivial⟩ (fun _ _ => trivial) (.refl _) ?_
    intro k hI
    refine At.seq ?_
    refine At.region ?_
    refine At.skim 1 rfl rfl ?_
    refine At.nil ?_
    refine At.then ?_
    refine At.seq ?_
    refine At.if rfl (fun hk => ?_) (fun hk => ?_)
    · skip
      obtain ⟨x, hx⟩ := get_of_lt (l := a.l) (i := k) (by omega)
      obtain ⟨y, hy⟩ := get_of_lt (l := b.l) (i := k) (by omega)
      have hk1 := lt_of_get hx
      refine At.skip ?_
      refine At.then ?_
      refine At.seq ?_
      refine At.block ?_
      refine At.seq ?_
      refine At.region ?_
      refine At.skim 2 rfl rfl ?_
      refine At.nil ?_
      refine At.then ?_
      refine At.seq ?_
      refine At.draw 8 (.q 0 (.q 1 (.q 2 (.q 3 (.q 4 (.q 5 (.q 6 (.q 7 (.e))))))))) _ (List.Sublist.refl _) mixed (by kernel_rfl) rfl ?_
      refine AtO.quiet rfl (q_move rfl) rfl (Calm.then (Calm.inBlock (Calm.then (Calm.then (Calm.inBlock (Calm.then Post.calm)))))) ?_
      refine AtO.quiet rfl (q_move rfl) rfl (Calm.then (Calm.inBlock (Calm.then (Calm.then (Calm.inBlock (Calm.then Post.calm)))))) ?_
      refine AtO.quiet rfl (q_index Try.underlying31 t50 rfl (.tail _ (.head _)) (by simp) rfl rfl (lt_of_get hx)) rfl (Calm.then (Calm.inBlock (Calm.then (Calm.then (Calm.inBlock (Calm.then Post.calm)))))) ?_
      refine AtO.quiet rfl (q_loadS t50 rfl (RdS.sl0 (.tail _ (.head _)) (map_get hx)) rfl) rfl (Calm.then (Calm.inBlock (Calm.then (Calm.then (Calm.inBlock (Calm.then Post.calm)))))) ?_
      refine AtO.quiet rfl (q_move rfl) rfl (Calm.then (Calm.inBlock (Calm.then (Calm.then (Calm.inBlock (Calm.then Post.calm)))))) ?_
      refine AtO.quiet rfl (q_move rfl) rfl (Calm.then (Calm.inBlock (Calm.then (Calm.then (Calm.inBlock (Calm.then Post.calm)))))) ?_
      refine AtO.quiet rfl (q_index Try.underlying31 t50 rfl (.tail _ (.tail _ (.head _))) (by simp) rfl rfl (lt_of_get hy)) rfl (Calm.then (Calm.inBlock (Calm.then (Calm.then (Calm.inBlock (Calm.then Post.calm)))))) ?_
      refine AtO.quiet rfl (q_loadS t50 rfl (RdS.sl0 (.tail _ (.tail _ (.head _))) (map_get hy)) rfl) rfl (Calm.then (Calm.inBlock (Calm.then (Calm.then (Calm.inBlock (Calm.then Post.calm)))))) ?_
      refine AtO.done ?_
      refine At.quiet (q_neqStruct e50 rfl rfl rfl rfl rfl rfl) rfl ?_
      refine At.nil ?_
      refine At.then ?_
      refine At.cond rfl (fun hxy => ?_) (fun hxy => ?_)
      · skip
        refine At.seq ?_
        refine At.region ?_
        refine At.skim 1 rfl rfl ?_
        refine At.nil ?_
        refine At.then ?_
        refine At.ret ?_
        refine At.inRet ?_
        refine At.thenRet ?_
        refine At.thenRet ?_
        refine At.inRet ?_
        refine At.thenRet ?_
        exact At.results (Γr := []) (M := []) rfl (RVals.cons (RVal.tmp rfl) RVals.nil) (.head _) (fun _ _ => trivial) (.refl _) ⟨congrArg Value.bool ((decide_eq_false (ne_at hx hy (fun e => by simp [e] at hxy))).symm), rfl, rfl⟩
      · skip
        refine At.skip ?_
        refine At.inNormal ?_
        refine At.then ?_
        refine At.region ?_
        refine At.quiet (q_add rfl rfl (by omega) (by omega)) rfl ?_
        refine At.skim 1 rfl rfl ?_
        refine At.nil ?_
        refine At.then ?_
        exact At.againK (k + 1) ⟨hk1, take_step hx ((Pr.eq_iff.1 (by simpa using hxy)).symm ▸ hy) hI.2⟩ (by (try dsimp only); omega) (Tells.end 15 ⟨rfl, trivial⟩ rfl rfl) (fun _ h => h) (.refl _)
    · skip
      refine At.exit ?_
      refine At.thenExit ?_
      refine At.thenExit ?_
      refine At.inHere rfl ?_
      refine At.then ?_
      refine At.seq ?_
      refine At.region ?_
      refine At.skim 1 rfl rfl ?_
      refine At.nil ?_
      refine At.then ?_
      refine At.ret ?_
      exact At.results (Γr := []) (M := []) rfl (RVals.cons (RVal.tmp rfl) RVals.nil) (.head _) (fun _ _ => trivial) (.refl _) ⟨congrArg Value.bool ((decide_eq_true (eq_of_takes hab (by omega) hI.2)).symm), rfl, rfl⟩

theorem same40 (a b : Sl Int) : Con Try.prog 40 [a.val, b.val] [intsP a, intsP b] [] (fun v Γ M => v = .bool (decide (a.l = b.l)) ∧ Γ = [] ∧ M = []) := by
  refine Con.body 26 Try.func40 rfl Try.ntmps40 rfl fun X H₀ L₀ => ?_
  refine At.lenOf (hs := (.tail _ (.head _))) fun ha => ?_
  rw [List.length_map] at ha
  refine At.lenOf (hs := (.tail _ (.tail _ (.head _)))) fun hb => ?_
  rw [List.length_map] at hb
  refine At.seq ?_
  refine At.region ?_
  refine At.skim 1 rfl rfl ?_
  refine At.nil ?_
  refine At.then ?_
  refine At.seq ?_
  refine At.seq ?_
  refine At.region ?_
  refine At.skim 1 rfl rfl ?_
  refine At.quiet (q_len Try.underlying37 rfl) rfl ?_
  refine At.skim 1 rfl rfl ?_
  refine At.quiet (q_len Try.underlying37 rfl) rfl ?_
  refine At.skim 1 rfl rfl ?_
  refine At.nil ?_
  refine At.then ?_
  refine At.if rfl (fun hn => ?_) (fun hn => ?_)
  · skip
    refine At.seq ?_
    refine At.region ?_
    refine At.skim 1 rfl rfl ?_
    refine At.nil ?_
    refine At.then ?_
    refine At.ret ?_
    refine At.thenRet ?_
    exact At.results (Γr := []) (M := []) rfl (RVals.cons (RVal.tmp rfl) RVals.nil) (.head _) (fun _ _ => trivial) (.refl _) ⟨congrArg Value.bool ((decide_eq_false (len_ne (by simpa using hn))).symm), rfl, rfl⟩
  · skip
    have hab : a.l.length = b.l.length := by omega
    refine At.skip ?_
    refine At.then ?_
    refine At.seq ?_
    refine At.seq ?_
    refine At.region ?_
    refine At.skim 1 rfl rfl ?_
    refine At.quiet (q_len Try.underlying37 rfl) rfl ?_
    refine At.skim 1 rfl rfl ?_
    refine At.nil ?_
    refine At.then ?_
    refine At.block ?_
    refine At.loopK (ι := Nat) [4, 5, 13, 14, 15, 16, 17, 18, 19, 20, 21, 22, 23, 24, 25] (fun k => [(13, .int .i64 (k : Int))]) (fun k => []) (fun k => []) _ (fun k => k ≤ a.l.length ∧ a.l.take k = b.l.take k) (fun k => a.l.length - k) 0 ⟨Nat.zero_le _, by simp⟩ ⟨rfl, trivial⟩ (fun _ _ => trivial) (.refl _) ?_
    intro k hI
    refine At.seq ?_
    refine At.region ?_
    refine At.skim 1 rfl rfl ?_
    refine At.nil ?_
    refine At.then ?_
    refine At.seq ?_
    refine At.if rfl (fun hk => ?_) (fun hk => ?_)
    · skip
      obtain ⟨x, hx⟩ := get_of_lt (l := a.l) (i := k) (by omega)
      obtain ⟨y, hy⟩ := get_of_lt (l := b.l) (i := k) (by omega)
      have hk1 := lt_of_get hx
      refine At.skip ?_
      refine At.then ?_
      refine At.seq ?_
      refine At.block ?_
      refine At.seq ?_
      refine At.region ?_
      refine At.skim 2 rfl rfl ?_
      refine At.nil ?_
      refine At.then ?_
      refine At.seq ?_
      refine At.draw 8 (.q 0 (.q 1 (.q 2 (.q 3 (.q 4 (.q 5 (.q 6 (.q 7 (.e))))))))) _ (List.Sublist.refl _) mixed (by kernel_rfl) rfl ?_
      refine AtO.quiet rfl (q_move rfl) rfl (Calm.then (Calm.inBlock (Calm.then (Calm.then (Calm.inBlock (Calm.then Post.calm)))))) ?_
      refine AtO.quiet rfl (q_move rfl) rfl (Calm.then (Calm.inBlock (Calm.then (Calm.then (Calm.inBlock (Calm.then Post.calm)))))) ?_
      refine AtO.quiet rfl (q_index Try.underlying37 t3 rfl (.tail _ (.head _)) (by simp) rfl rfl (lt_of_get hx)) rfl (Calm.then (Calm.inBlock (Calm.then (Calm.then (Calm.inBlock (Calm.then Post.calm)))))) ?_
      refine AtO.quiet rfl (q_load t3 rfl (Rd.sl0 (.tail _ (.head _)) (map_get hx) rfl)) rfl (Calm.then (Calm.inBlock (Calm.then (Calm.then (Calm.inBlock (Calm.then Post.calm)))))) ?_
      refine AtO.quiet rfl (q_move rfl) rfl (Calm.then (Calm.inBlock (Calm.then (Calm.then (Calm.inBlock (Calm.then Post.calm)))))) ?_
      refine AtO.quiet rfl (q_move rfl) rfl (Calm.then (Calm.inBlock (Calm.then (Calm.then (Calm.inBlock (Calm.then Post.calm)))))) ?_
      refine AtO.quiet rfl (q_index Try.underlying37 t3 rfl (.tail _ (.tail _ (.head _))) (by simp) rfl rfl (lt_of_get hy)) rfl (Calm.then (Calm.inBlock (Calm.then (Calm.then (Calm.inBlock (Calm.then Post.calm)))))) ?_
      refine AtO.quiet rfl (q_load t3 rfl (Rd.sl0 (.tail _ (.tail _ (.head _))) (map_get hy) rfl)) rfl (Calm.then (Calm.inBlock (Calm.then (Calm.then (Calm.inBlock (Calm.then Post.calm)))))) ?_
      refine AtO.done ?_
      refine At.skim 1 rfl rfl ?_
      refine At.nil ?_
      refine At.then ?_
      refine At.if rfl (fun hxy => ?_) (fun hxy => ?_)
      · skip
        refine At.seq ?_
        refine At.region ?_
        refine At.skim 1 rfl rfl ?_
        refine At.nil ?_
        refine At.then ?_
        refine At.ret ?_
        refine At.inRet ?_
        refine At.thenRet ?_
        refine At.thenRet ?_
        refine At.inRet ?_
        refine At.thenRet ?_
        exact At.results (Γr := []) (M := []) rfl (RVals.cons (RVal.tmp rfl) RVals.nil) (.head _) (fun _ _ => trivial) (.refl _) ⟨congrArg Value.bool ((decide_eq_false (ne_at hx hy hxy)).symm), rfl, rfl⟩
      · skip
        refine At.skip ?_
        refine At.inNormal ?_
        refine At.then ?_
        refine At.region ?_
        refine At.quiet (q_add rfl rfl (by omega) (by omega)) rfl ?_
        refine At.skim 1 rfl rfl ?_
        refine At.nil ?_
        refine At.then ?_
        exact At.againK (k + 1) ⟨hk1, take_step hx ((show y = x by omega) ▸ hy) hI.2⟩ (by (try dsimp only); omega) (Tells.end 15 ⟨rfl, trivial⟩ rfl rfl) (fun _ h => h) (.refl _)
    · skip
      refine At.exit ?_
      refine At.thenExit ?_
      refine At.thenExit ?_
      refine At.inHere rfl ?_
      refine At.then ?_
      refine At.seq ?_
      refine At.region ?_
      refine At.skim 1 rfl rfl ?_
      refine At.nil ?_
      refine At.then ?_
      refine At.ret ?_
      exact At.results (Γr := []) (M := []) rfl (RVals.cons (RVal.tmp rfl) RVals.nil) (.head _) (fun _ _ => trivial) (.refl _) ⟨congrArg Value.bool ((decide_eq_true (eq_of_takes hab (by omega) hI.2)).symm), rfl, rfl⟩

theorem same106 (a b : Sl Pr) : Con Try.prog 106 [a.val, b.val] [prsP a, prsP b] [] (fun v Γ M => v = .bool (decide (a.l = b.l)) ∧ Γ = [] ∧ M = []) := by
  refine Con.body 8 Try.func106 rfl Try.ntmps106 rfl fun X H₀ L₀ => ?_
  refine At.seq ?_
  refine At.region ?_
  refine At.skim 1 rfl rfl ?_
  refine At.nil ?_
  refine At.then ?_
  refine At.seq ?_
  refine At.region ?_
  refine At.skim 2 rfl rfl ?_
  refine At.call en116 rfl (same116 _ _) (fun _ h => ⟨h.2.1, h.2.2.1, trivial⟩) (List.Perm.refl _) rfl ?_
  rintro _ _ _ ⟨rfl, rfl, rfl⟩
  refine At.skim 1 rfl rfl ?_
  refine At.nil ?_
  refine At.then ?_
  refine At.ret ?_
  exact At.results (Γr := []) (M := []) rfl (RVals.cons (RVal.tmp rfl) RVals.nil) (.head _) (fun _ _ => trivial) (.refl _) ⟨rfl, rfl, rfl⟩

theorem clone72 (l : Sl Pr) (hl : l.l.length ≤ 1000000) : Con Try.prog 72 [l.val] [prsP l] [] (fun v Γ M => ∃ s : Sl Pr, v = s.val ∧ s.l = l.l ∧ Γ = [prsP s] ∧ M = []) := by
  refine Con.body 8 Try.func72 rfl Try.ntmps72 rfl fun X H₀ L₀ => ?_
  refine At.seq ?_
  refine At.region ?_
  refine At.skim 1 rfl rfl ?_
  refine At.nil ?_
  refine At.then ?_
  refine At.seq ?_
  refine At.seq ?_
  refine At.region ?_
  refine At.skim 1 rfl rfl ?_
  refine At.quiet (q_eqSliceNil Try.underlying31 rfl rfl) rfl ?_
  refine At.nil ?_
  refine At.then ?_
  refine At.cond rfl (fun hn => ?_) (fun hn => ?_)
  · skip
    refine At.nilOf (hs := (.tail _ (.head _))) (by simpa using hn) fun hnil => ?_
    refine At.know (prsP ⟨none, 0, []⟩) (fun _ _ => sl_nil _ _ _ (Nat.zero_le _)) ?_
    refine At.seq ?_
    refine At.region ?_
    refine At.skim 1 rfl rfl ?_
    refine At.nil ?_
    refine At.then ?_
    refine At.ret ?_
    refine At.thenRet ?_
    exact At.results (Γr := [prsP ⟨none, 0, []⟩]) (M := []) rfl (RVals.cons (RVal.tmp rfl) RVals.nil) (.tail _ (.head _)) (fun _ h => ⟨h.1, trivial⟩) (.refl _) ⟨⟨none, 0, []⟩, rfl, hnil.symm, rfl, rfl⟩
  · skip
    refine At.skip ?_
    refine At.then ?_
    refine At.seq ?_
    refine At.region ?_
    refine At.loud (l_buildSlice0 Try.underlying31 t50) rfl ?_
    rintro _ _ _ ⟨e1, rfl, rfl, rfl⟩
    refine At.skim 1 rfl rfl ?_
    refine At.loud (l_appendNew rfl Try.underlying31 t50 rfl rfl (.tail _ (.head _)) (by simp) rfl (by omega) (by unfold maxLen; omega) rfl) rfl ?_
    rintro _ _ _ ⟨a2, c2, rfl, rfl, rfl⟩
    refine At.skim 1 rfl rfl ?_
    refine At.nil ?_
    refine At.then ?_
    refine At.ret ?_
    exact At.results (Γr := [prsP ⟨a2, c2, l.l⟩]) (M := []) rfl (RVals.cons (RVal.tmp rfl) RVals.nil) (.tail _ (.head _)) (fun _ h => ⟨h.1, trivial⟩) (.refl _) ⟨⟨a2, c2, l.l⟩, rfl, rfl, rfl, rfl⟩

theorem copy73 (n : Nd) (hl : n.ps.l.length ≤ 1000000) : Con Try.prog 73 [n.val] [prsP n.ps] [] (fun v Γ M => ∃ s : Sl Pr, v = Nd.val { n with ps := s } ∧ s.l = n.ps.l ∧ Γ = [prsP s] ∧ M = []) := by
  refine Con.body 8 Try.func73 rfl Try.ntmps73 rfl fun X H₀ L₀ => ?_
  refine At.seq ?_
  refine At.region ?_
  refine At.loud (l_box rfl) rfl ?_
  rintro _ _ _ ⟨b1, rfl, rfl, rfl⟩
  refine At.loud (l_alloc t33) rfl ?_
  rintro _ _ _ ⟨b2, rfl, rfl, rfl⟩
  refine At.nil ?_
  refine At.then ?_
  refine At.seq ?_
  refine At.region ?_
  refine At.fld s33 t31 rfl rfl rfl (Rd.loc (i := 1) rfl rfl) rfl rfl ?_
  refine At.call en72 rfl (clone72 n.ps hl) (fun _ h => ⟨h.2.1, trivial⟩) (List.Perm.refl _) rfl ?_
  rintro _ _ _ ⟨s, rfl, hs, rfl, rfl⟩
  refine At.quiet (q_fieldAddr s33 rfl rfl rfl) rfl ?_
  refine At.loudN (l_store t31 rfl rfl (i := 1) rfl rfl rfl rfl) ?_
  rintro _ _ _ ⟨rfl, rfl⟩
  refine At.nil ?_
  refine At.then ?_
  refine At.seq ?_
  refine At.region ?_
  refine At.quiet (q_loadS t33 rfl (RdS.loc (i := 1) rfl (m := 6) rfl) rfl) rfl ?_
  refine At.loudN (l_store t33 rfl rfl (i := 0) rfl rfl rfl rfl) ?_
  rintro _ _ _ ⟨rfl, rfl⟩
  refine At.nil ?_
  refine At.then ?_
  refine At.ret ?_
  exact At.results (Γr := [prsP s]) (M := []) rfl (RVals.cons (RVal.cellS rfl t33 (RdS.loc (i := 0) rfl (m := 6) rfl) rfl) RVals.nil) (.tail _ (.head _)) (fun _ h => ⟨h.1, trivial⟩) (.cons _ (.cons _ (.refl _))) ⟨s, rfl, hs, rfl, rfl⟩

theorem same74 (a b : Nd) : Con Try.prog 74 [a.val, b.val] [prsP a.ps, prsP b.ps] [] (fun v Γ M => v = .bool (decide (a.p = b.p)) ∧ Γ = [] ∧ M = []) := by
  refine Con.body 45 Try.func74 rfl Try.ntmps74 rfl fun X H₀ L₀ => ?_
  refine At.seq ?_
  refine At.region ?_
  refine At.loud (l_box rfl) rfl ?_
  rintro _ _ _ ⟨b1, rfl, rfl, rfl⟩
  refine At.freeze 0 (φ := blk b1 _) rfl (fun _ h => blk_def.2 ⟨_, _, h⟩) ?_
  refine At.loud (l_box rfl) rfl ?_
  rintro _ _ _ ⟨b2, rfl, rfl, rfl⟩
  refine At.freeze 0 (φ := blk b2 _) rfl (fun _ h => blk_def.2 ⟨_, _, h⟩) ?_
  refine At.skim 1 rfl rfl ?_
  refine At.nil ?_
  refine At.then ?_
  refine At.seq ?_
  refine At.region ?_
  refine At.fld s33 t4 rfl rfl rfl (Rd.blk (.tail _ (.head _)) rfl) rfl rfl ?_
  refine At.fld s33 t4 rfl rfl rfl (Rd.blk (.head _) rfl) rfl rfl ?_
  refine At.quiet (q_eqBool Try.underlying4 rfl rfl) rfl ?_
  refine At.skim 1 rfl rfl ?_
  refine At.split (d := 10) rfl (fun h1 => ?_) (fun h1 => ?_)
  · skip
    refine At.open rfl rfl ?_
    refine At.quiet (q_fieldAddr s33 rfl rfl rfl) rfl ?_
    refine At.open rfl rfl ?_
    refine At.quiet (q_load t3 rfl (Rd.blk (.tail _ (.head _)) rfl)) rfl ?_
    refine At.open rfl rfl ?_
    refine At.quiet (q_fieldAddr s33 rfl rfl rfl) rfl ?_
    refine At.open rfl rfl ?_
    refine At.quiet (q_load t3 rfl (Rd.blk (.head _) rfl)) rfl ?_
    refine At.skim 3 rfl rfl ?_
    refine At.splitP (d := 17) rfl (fun h2 => ?_) (fun h2 => ?_)
    · skip
      refine At.open rfl rfl ?_
      refine At.quiet (q_fieldAddr s33 rfl rfl rfl) rfl ?_
      refine At.open rfl rfl ?_
      refine At.quiet (q_load t3 rfl (Rd.blk (.tail _ (.head _)) rfl)) rfl ?_
      refine At.open rfl rfl ?_
      refine At.quiet (q_fieldAddr s33 rfl rfl rfl) rfl ?_
      refine At.open rfl rfl ?_
      refine At.quiet (q_load t3 rfl (Rd.blk (.head _) rfl)) rfl ?_
      refine At.skim 3 rfl rfl ?_
      refine At.splitP (d := 24) rfl (fun h3 => ?_) (fun h3 => ?_)
      · skip
        refine At.open rfl rfl ?_
        refine At.quiet (q_fieldAddr s33 rfl rfl rfl) rfl ?_
        refine At.open rfl rfl ?_
        refine At.quiet (q_load t3 rfl (Rd.blk (.tail _ (.head _)) rfl)) rfl ?_
        refine At.open rfl rfl ?_
        refine At.quiet (q_fieldAddr s33 rfl rfl rfl) rfl ?_
        refine At.open rfl rfl ?_
        refine At.quiet (q_load t3 rfl (Rd.blk (.head _) rfl)) rfl ?_
        refine At.skim 3 rfl rfl ?_
        refine At.splitP (d := 31) rfl (fun h4 => ?_) (fun h4 => ?_)
        · skip
          refine At.open rfl rfl ?_
          refine At.quiet (q_fieldAddr s33 rfl rfl rfl) rfl ?_
          refine At.open rfl rfl ?_
          refine At.quiet (q_load t3 rfl (Rd.blk (.tail _ (.head _)) rfl)) rfl ?_
          refine At.open rfl rfl ?_
          refine At.quiet (q_fieldAddr s33 rfl rfl rfl) rfl ?_
          refine At.open rfl rfl ?_
          refine At.quiet (q_load t3 rfl (Rd.blk (.head _) rfl)) rfl ?_
          refine At.skim 3 rfl rfl ?_
          refine At.splitP (d := 38) rfl (fun h5 => ?_) (fun h5 => ?_)
          · skip
            refine At.open rfl rfl ?_
            refine At.quiet (q_fieldAddr s33 rfl rfl rfl) rfl ?_
            refine At.open rfl rfl ?_
            refine At.quiet (q_load t31 rfl (Rd.blk (.tail _ (.head _)) rfl)) rfl ?_
            refine At.open rfl rfl ?_
            refine At.quiet (q_fieldAddr s33 rfl rfl rfl) rfl ?_
            refine At.open rfl rfl ?_
            refine At.quiet (q_load t31 rfl (Rd.blk (.head _) rfl)) rfl ?_
            refine At.open rfl rfl ?_
            refine At.call en33 rfl (same33 _ _) (fun _ h => ⟨h.2.2.2.1, h.2.2.2.2.1, trivial⟩) (List.Perm.refl _) rfl ?_
            rintro _ _ _ ⟨rfl, rfl, rfl⟩
            refine At.skim 2 rfl rfl ?_
            refine At.nil ?_
            refine At.then ?_
            refine At.ret ?_
            exact At.results (Γr := []) (M := []) rfl (RVals.cons (RVal.tmp rfl) RVals.nil) (.tail _ (.tail _ (.head _))) (fun _ _ => trivial) (.refl _) ⟨congrArg Value.bool (by cases a; cases b; simp_all [Nd.p]), rfl, rfl⟩
          · skip
            refine At.skim 7 rfl rfl ?_
            refine At.nil ?_
            refine At.then ?_
            refine At.ret ?_
            exact At.results (Γr := []) (M := []) rfl (RVals.cons (RVal.tmp rfl) RVals.nil) (.tail _ (.tail _ (.head _))) (fun _ _ => trivial) (.refl _) ⟨congrArg Value.bool (by cases a; cases b; simp_all [Nd.p]), rfl, rfl⟩
        · skip
          refine At.skim 14 rfl rfl ?_
          refine At.nil ?_
          refine At.then ?_
          refine At.ret ?_
          exact At.results (Γr := []) (M := []) rfl (RVals.cons (RVal.tmp rfl) RVals.nil) (.tail _ (.tail _ (.head _))) (fun _ _ => trivial) (.refl _) ⟨congrArg Value.bool (by cases a; cases b; simp_all [Nd.p]), rfl, rfl⟩
      · skip
        refine At.skim 21 rfl rfl ?_
        refine At.nil ?_
        refine At.then ?_
        refine At.ret ?_
        exact At.results (Γr := []) (M := []) rfl (RVals.cons (RVal.tmp rfl) RVals.nil) (.tail _ (.tail _ (.head _))) (fun _ _ => trivial) (.refl _) ⟨congrArg Value.bool (by cases a; cases b; simp_all [Nd.p]), rfl, rfl⟩
    · skip
      refine At.skim 28 rfl rfl ?_
      refine At.nil ?_
      refine At.then ?_
      refine At.ret ?_
      exact At.results (Γr := []) (M := []) rfl (RVals.cons (RVal.tmp rfl) RVals.nil) (.tail _ (.tail _ (.head _))) (fun _ _ => trivial) (.refl _) ⟨congrArg Value.bool (by cases a; cases b; simp_all [Nd.p]), rfl, rfl⟩
  · skip
    refine At.skim 35 rfl rfl ?_
    refine At.nil ?_
    refine At.then ?_
    refine At.ret ?_
    exact At.results (Γr := []) (M := []) rfl (RVals.cons (RVal.tmp rfl) RVals.nil) (.tail _ (.tail _ (.head _))) (fun _ _ => trivial) (.refl _) ⟨congrArg Value.bool (by cases a; cases b; simp_all [Nd.p]), rfl, rfl⟩

theorem same76 (a b : Nd) : Con Try.prog 76 [a.val, b.val] [prsP a.ps, prsP b.ps] [] (fun v Γ M => v = .bool (decide (a.p = b.p)) ∧ Γ = [] ∧ M = []) := by
  refine Con.body 45 Try.func76 rfl Try.ntmps76 rfl fun X H₀ L₀ => ?_
  refine At.seq ?_
  refine At.region ?_
  refine At.loud (l_box rfl) rfl ?_
  rintro _ _ _ ⟨b1, rfl, rfl, rfl⟩
  refine At.freeze 0 (φ := blk b1 _) rfl (fun _ h => blk_def.2 ⟨_, _, h⟩) ?_
  refine At.loud (l_box rfl) rfl ?_
  rintro _ _ _ ⟨b2, rfl, rfl, rfl⟩
  refine At.freeze 0 (φ := blk b2 _) rfl (fun _ h => blk_def.2 ⟨_, _, h⟩) ?_
  refine At.skim 1 rfl rfl ?_
  refine At.nil ?_
  refine At.then ?_
  refine At.seq ?_
  refine At.region ?_
  refine At.fld s33 t4 rfl rfl rfl (Rd.blk (.tail _ (.head _)) rfl) rfl rfl ?_
  refine At.fld s33 t4 rfl rfl rfl (Rd.blk (.head _) rfl) rfl rfl ?_
  refine At.quiet (q_eqBool Try.underlying4 rfl rfl) rfl ?_
  refine At.skim 1 rfl rfl ?_
  refine At.split (d := 10) rfl (fun h1 => ?_) (fun h1 => ?_)
  · skip
    refine At.open rfl rfl ?_
    refine At.quiet (q_fieldAddr s33 rfl rfl rfl) rfl ?_
    refine At.open rfl rfl ?_
    refine At.quiet (q_load t3 rfl (Rd.blk (.tail _ (.head _)) rfl)) rfl ?_
    refine At.open rfl rfl ?_
    refine At.quiet (q_fieldAddr s33 rfl rfl rfl) rfl ?_
    refine At.open rfl rfl ?_
    refine At.quiet (q_load t3 rfl (Rd.blk (.head _) rfl)) rfl ?_
    refine At.skim 3 rfl rfl ?_
    refine At.splitP (d := 17) rfl (fun h2 => ?_) (fun h2 => ?_)
    · skip
      refine At.open rfl rfl ?_
      refine At.quiet (q_fieldAddr s33 rfl rfl rfl) rfl ?_
      refine At.open rfl rfl ?_
      refine At.quiet (q_load t3 rfl (Rd.blk (.tail _ (.head _)) rfl)) rfl ?_
      refine At.open rfl rfl ?_
      refine At.quiet (q_fieldAddr s33 rfl rfl rfl) rfl ?_
      refine At.open rfl rfl ?_
      refine At.quiet (q_load t3 rfl (Rd.blk (.head _) rfl)) rfl ?_
      refine At.skim 3 rfl rfl ?_
      refine At.splitP (d := 24) rfl (fun h3 => ?_) (fun h3 => ?_)
      · skip
        refine At.open rfl rfl ?_
        refine At.quiet (q_fieldAddr s33 rfl rfl rfl) rfl ?_
        refine At.open rfl rfl ?_
        refine At.quiet (q_load t3 rfl (Rd.blk (.tail _ (.head _)) rfl)) rfl ?_
        refine At.open rfl rfl ?_
        refine At.quiet (q_fieldAddr s33 rfl rfl rfl) rfl ?_
        refine At.open rfl rfl ?_
        refine At.quiet (q_load t3 rfl (Rd.blk (.head _) rfl)) rfl ?_
        refine At.skim 3 rfl rfl ?_
        refine At.splitP (d := 31) rfl (fun h4 => ?_) (fun h4 => ?_)
        · skip
          refine At.open rfl rfl ?_
          refine At.quiet (q_fieldAddr s33 rfl rfl rfl) rfl ?_
          refine At.open rfl rfl ?_
          refine At.quiet (q_load t3 rfl (Rd.blk (.tail _ (.head _)) rfl)) rfl ?_
          refine At.open rfl rfl ?_
          refine At.quiet (q_fieldAddr s33 rfl rfl rfl) rfl ?_
          refine At.open rfl rfl ?_
          refine At.quiet (q_load t3 rfl (Rd.blk (.head _) rfl)) rfl ?_
          refine At.skim 3 rfl rfl ?_
          refine At.splitP (d := 38) rfl (fun h5 => ?_) (fun h5 => ?_)
          · skip
            refine At.open rfl rfl ?_
            refine At.quiet (q_fieldAddr s33 rfl rfl rfl) rfl ?_
            refine At.open rfl rfl ?_
            refine At.quiet (q_load t31 rfl (Rd.blk (.tail _ (.head _)) rfl)) rfl ?_
            refine At.open rfl rfl ?_
            refine At.quiet (q_fieldAddr s33 rfl rfl rfl) rfl ?_
            refine At.open rfl rfl ?_
            refine At.quiet (q_load t31 rfl (Rd.blk (.head _) rfl)) rfl ?_
            refine At.open rfl rfl ?_
            refine At.call en106 rfl (same106 _ _) (fun _ h => ⟨h.2.2.2.1, h.2.2.2.2.1, trivial⟩) (List.Perm.refl _) rfl ?_
            rintro _ _ _ ⟨rfl, rfl, rfl⟩
            refine At.skim 2 rfl rfl ?_
            refine At.nil ?_
            refine At.then ?_
            refine At.ret ?_
            exact At.results (Γr := []) (M := []) rfl (RVals.cons (RVal.tmp rfl) RVals.nil) (.tail _ (.tail _ (.head _))) (fun _ _ => trivial) (.refl _) ⟨congrArg Value.bool (by cases a; cases b; simp_all [Nd.p]), rfl, rfl⟩
          · skip
            refine At.skim 7 rfl rfl ?_
            refine At.nil ?_
            refine At.then ?_
            refine At.ret ?_
            exact At.results (Γr := []) (M := []) rfl (RVals.cons (RVal.tmp rfl) RVals.nil) (.tail _ (.tail _ (.head _))) (fun _ _ => trivial) (.refl _) ⟨congrArg Value.bool (by cases a; cases b; simp_all [Nd.p]), rfl, rfl⟩
        · skip
          refine At.skim 14 rfl rfl ?_
          refine At.nil ?_
          refine At.then ?_
          refine At.ret ?_
          exact At.results (Γr := []) (M := []) rfl (RVals.cons (RVal.tmp rfl) RVals.nil) (.tail _ (.tail _ (.head _))) (fun _ _ => trivial) (.refl _) ⟨congrArg Value.bool (by cases a; cases b; simp_all [Nd.p]), rfl, rfl⟩
      · skip
        refine At.skim 21 rfl rfl ?_
        refine At.nil ?_
        refine At.then ?_
        refine At.ret ?_
        exact At.results (Γr := []) (M := []) rfl (RVals.cons (RVal.tmp rfl) RVals.nil) (.tail _ (.tail _ (.head _))) (fun _ _ => trivial) (.refl _) ⟨congrArg Value.bool (by cases a; cases b; simp_all [Nd.p]), rfl, rfl⟩
    · skip
      refine At.skim 28 rfl rfl ?_
      refine At.nil ?_
      refine At.then ?_
      refine At.ret ?_
      exact At.results (Γr := []) (M := []) rfl (RVals.cons (RVal.tmp rfl) RVals.nil) (.tail _ (.tail _ (.head _))) (fun _ _ => trivial) (.refl _) ⟨congrArg Value.bool (by cases a; cases b; simp_all [Nd.p]), rfl, rfl⟩
  · skip
    refine At.skim 35 rfl rfl ?_
    refine At.nil ?_
    refine At.then ?_
    refine At.ret ?_
    exact At.results (Γr := []) (M := []) rfl (RVals.cons (RVal.tmp rfl) RVals.nil) (.tail _ (.tail _ (.head _))) (fun _ _ => trivial) (.refl _) ⟨congrArg Value.bool (by cases a; cases b; simp_all [Nd.p]), rfl, rfl⟩

end Go.Proofs.Ytmkodknmknfdkaa
