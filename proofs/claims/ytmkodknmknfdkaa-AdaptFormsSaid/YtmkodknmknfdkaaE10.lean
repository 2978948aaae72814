/- Cuts that leave the rest of the own memory as it stands. -/
import Derived.Test.YtmkodknmknfdkaaE9
set_option linter.unusedVariables false
set_option linter.unusedSimpArgs false
namespace Go.Proofs.Ytmkodknmknfdkaa
namespace E
section
variable {X : Cx} {n : Nat} {P : Program} {ops : Array Oper} {Q : Exit → Act → World → Prop} {l l' : List Oper} {env : Env} {Γ : List SProp} {L L₀ : Loc}
inductive Dr : Nat → Loc → Loc → Prop
  | z {L : Loc} : Dr 0 L L
  | s {k : Nat} {a : Seg} {L L' : Loc} : Dr k L L' → Dr (k + 1) (a :: L) L'
theorem At.cutD {x y : Code} {ι : Type} {k : Nat} (_hd : Dr k L L₀) (ws : List Nat) (e : ι → Env) (G : ι → List SProp) (M : ι → Loc) (I : ι → Prop)
    (h : At X n (x.wp P (Exit.then (Meet X n (fun i => e i ++ without ws env) (fun i => G i ++ Γ) (fun i => M i ++ L₀) I) Q)) env Γ L)
    (h' : ∀ i, I i → At X n (y.wp P Q) (e i ++ without ws env) (G i ++ Γ) (M i ++ L₀)) : At X n ((Code.seq x y).wp P Q) env Γ L :=
  At.cutK ws e G M L₀ I h h'
theorem At.cutOpsD {ι : Type} {k : Nat} (_hd : Dr k L L₀) (m : Nat) (ws : List Nat) (e : ι → Env) (G : ι → List SProp) (M : ι → Loc) (I : ι → Prop) (ht : behind m l = some l')
    (h : At X n (wpList P ops (Exit.then (Meet X n (fun i => e i ++ without ws env) (fun i => G i ++ Γ) (fun i => M i ++ L₀) I) Q) (ahead m l)) env Γ L)
    (h' : ∀ i, I i → At X n (wpList P ops Q l') (e i ++ without ws env) (G i ++ Γ) (M i ++ L₀)) : At X n (wpList P ops Q l) env Γ L :=
  At.cutOps m ws e G M L₀ I ht h h'
theorem At.nilSeg {K : Act → World → Prop} (h : At X n K env Γ ([] :: L)) : At X n K env Γ L := fun a w H h1 h2 h3 => h a w H h1 h2 h3
theorem At.know {K : Act → World → Prop} (φ : SProp) (hp : ∀ H, Holds Γ H → φ.holds H) (h : At X n K env (φ :: Γ) L) : At X n K env Γ L :=
  At.facts (φ :: Γ) (fun H hH => ⟨hp H hH, hH⟩) h
theorem At.capOf {K : Act → World → Prop} {a : Option Addr} {c k : Nat} {rows : List (List Value)} (hs : sl a c k rows ∈ Γ) (h : rows.length ≤ c → At X n K env Γ L) : At X n K env Γ L :=
  At.have _ (fun _ hH => (sl_def.1 (hH.mem hs)).1) h
end
end E
end Go.Proofs.Ytmkodknmknfdkaa
