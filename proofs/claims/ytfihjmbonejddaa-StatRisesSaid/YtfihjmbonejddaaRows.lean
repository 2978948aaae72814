/-
  No cell of these rows narrows 'for every input' (looked for: loops, veiled, ifaces, maps, wideKeys, modest, calm, conditions, laid).
  DERIVED. THE GIVEN ROWS OF THIS SEAT. 9 by the template 'for every input the law returns true; each argument reads behind the call as it read before'; 0 by the template 'total and deterministic' (their statements: YtfihjmbonejddaaTotals.lean).
  GIVEN WITH THE SEED: the statements are not yours to turn. If you find one false, say at which input.
  Laid BY PROGRAM, IN A SANDBOX (cutbox-rows.mjs): the forced cells as the released guide's own fill.sh prints them over the translation 19c4fdbd323d1534… (all of the seat's roots in one cut). By AI agents, Wed Nov 11 2026. No macro, syntax, notation, axiom, sorry.
-/
import Derived.Test.YtfihjmbonejddaaChecked
import GoSem.Claim
import GoSem.ClaimJoined
import GoSem.ClaimMapViews
import Derived.JoinedTies
import Derived.KernelRfl
namespace Go.Proofs.Ytfihjmbonejddaa
/- THE CELL 'sum', in the pinned program and in every row, IS THE sha256 OF THE DUMP (.gsa) THAT YtfihjmbonejddaaProg.lean LOADS. Nothing in Lean hashes anything: it is a label: what it is worth is what the hold of that sum in a sandbox is worth. -/
noncomputable def Try.pinned : Pinned := { name := "ytfihjmbonejddaa", sum := "19c4fdbd323d1534f6943a8231157bc59a4ccf508037a42c1067ae118e08b072", checked := Try.checked }
namespace Rows
def none {H : Type} : Left H := { results := [], args := [] }

/-- 'osierlaw11.PolicyForms': WHATEVER THE INPUT: true; the input reads as it did. -/
def policyFormsSpec : ChangeSpec := { name := "policyForms", fn := fun _ => fun
  | [d] => { results := [.lit (.bool true)], args := [d] }
  | _ => none }
def policyFormsRow : OpenClaim := { program := "ytfihjmbonejddaa", sum := "19c4fdbd323d1534f6943a8231157bc59a4ccf508037a42c1067ae118e08b072", func := "osier/osierlaw11.PolicyForms", spec := "policyForms", apart := false }
def PolicyFormsSaid : Prop := policyFormsRow.holds Try.pinned (OpenSpec.ofChange policyFormsSpec)

/-- ITS FALSE NEIGHBOUR: 'it returns false'. Refute it at one input. -/
def policyFormsWrong : ChangeSpec := { name := "policyForms", fn := fun _ => fun
  | [d] => { results := [.lit (.bool false)], args := [d] }
  | _ => none }
def PolicyFormsWrongFalsely : Prop := policyFormsRow.holds Try.pinned (OpenSpec.ofChange policyFormsWrong)

/-- 'osierlaw11.PolicyStays': WHATEVER THE INPUT: true; the input reads as it did. -/
def policyStaysSpec : ChangeSpec := { name := "policyStays", fn := fun _ => fun
  | [d1, d2] => { results := [.lit (.bool true)], args := [d1, d2] }
  | _ => none }
def policyStaysRow : OpenClaim := { program := "ytfihjmbonejddaa", sum := "19c4fdbd323d1534f6943a8231157bc59a4ccf508037a42c1067ae118e08b072", func := "osier/osierlaw11.PolicyStays", spec := "policyStays", apart := false }
def PolicyStaysSaid : Prop := policyStaysRow.holds Try.pinned (OpenSpec.ofChange policyStaysSpec)

/-- ITS FALSE NEIGHBOUR: 'it returns false'. Refute it at one input. -/
def policyStaysWrong : ChangeSpec := { name := "policyStays", fn := fun _ => fun
  | [d1, d2] => { results := [.lit (.bool false)], args := [d1, d2] }
  | _ => none }
def PolicyStaysWrongFalsely : Prop := policyStaysRow.holds Try.pinned (OpenSpec.ofChange policyStaysWrong)

/-- 'osierlaw11.PolicyEach': WHATEVER THE INPUT: true; the input reads as it did. -/
def policyEachSpec : ChangeSpec := { name := "policyEach", fn := fun _ => fun
  | [d1, d2] => { results := [.lit (.bool true)], args := [d1, d2] }
  | _ => none }
def policyEachRow : OpenClaim := { program := "ytfihjmbonejddaa", sum := "19c4fdbd323d1534f6943a8231157bc59a4ccf508037a42c1067ae118e08b072", func := "osier/osierlaw11.PolicyEach", spec := "policyEach", apart := false }
def PolicyEachSaid : Prop := policyEachRow.holds Try.pinned (OpenSpec.ofChange policyEachSpec)

/-- ITS FALSE NEIGHBOUR: 'it returns false'. Refute it at one input. -/
def policyEachWrong : ChangeSpec := { name := "policyEach", fn := fun _ => fun
  | [d1, d2] => { results := [.lit (.bool false)], args := [d1, d2] }
  | _ => none }
def PolicyEachWrongFalsely : Prop := policyEachRow.holds Try.pinned (OpenSpec.ofChange policyEachWrong)

/-- 'osierlaw11.PolicyEdges': WHATEVER THE INPUT: true; the input reads as it did. -/
def policyEdgesSpec : ChangeSpec := { name := "policyEdges", fn := fun _ => fun
  | [d1, d2] => { results := [.lit (.bool true)], args := [d1, d2] }
  | _ => none }
def policyEdgesRow : OpenClaim := { program := "ytfihjmbonejddaa", sum := "19c4fdbd323d1534f6943a8231157bc59a4ccf508037a42c1067ae118e08b072", func := "osier/osierlaw11.PolicyEdges", spec := "policyEdges", apart := false }
def PolicyEdgesSaid : Prop := policyEdgesRow.holds Try.pinned (OpenSpec.ofChange policyEdgesSpec)

/-- ITS FALSE NEIGHBOUR: 'it returns false'. Refute it at one input. -/
def policyEdgesWrong : ChangeSpec := { name := "policyEdges", fn := fun _ => fun
  | [d1, d2] => { results := [.lit (.bool false)], args := [d1, d2] }
  | _ => none }
def PolicyEdgesWrongFalsely : Prop := policyEdgesRow.holds Try.pinned (OpenSpec.ofChange policyEdgesWrong)

/-- 'osierlaw12.StatForms': WHATEVER THE INPUT: true; the input reads as it did. -/
def statFormsSpec : ChangeSpec := { name := "statForms", fn := fun _ => fun
  | [d1, d2, d3, d4] => { results := [.lit (.bool true)], args := [d1, d2, d3, d4] }
  | _ => none }
def statFormsRow : OpenClaim := { program := "ytfihjmbonejddaa", sum := "19c4fdbd323d1534f6943a8231157bc59a4ccf508037a42c1067ae118e08b072", func := "osier/osierlaw12.StatForms", spec := "statForms", apart := false }
def StatFormsSaid : Prop := statFormsRow.holds Try.pinned (OpenSpec.ofChange statFormsSpec)

/-- ITS FALSE NEIGHBOUR: 'it returns false'. Refute it at one input. -/
def statFormsWrong : ChangeSpec := { name := "statForms", fn := fun _ => fun
  | [d1, d2, d3, d4] => { results := [.lit (.bool false)], args := [d1, d2, d3, d4] }
  | _ => none }
def StatFormsWrongFalsely : Prop := statFormsRow.holds Try.pinned (OpenSpec.ofChange statFormsWrong)

/-- 'osierlaw12.StatRises': WHATEVER THE INPUT: true; the input reads as it did. -/
def statRisesSpec : ChangeSpec := { name := "statRises", fn := fun _ => fun
  | [d1, d2, d3, d4] => { results := [.lit (.bool true)], args := [d1, d2, d3, d4] }
  | _ => none }
def statRisesRow : OpenClaim := { program := "ytfihjmbonejddaa", sum := "19c4fdbd323d1534f6943a8231157bc59a4ccf508037a42c1067ae118e08b072", func := "osier/osierlaw12.StatRises", spec := "statRises", apart := false }
def StatRisesSaid : Prop := statRisesRow.holds Try.pinned (OpenSpec.ofChange statRisesSpec)

/-- ITS FALSE NEIGHBOUR: 'it returns false'. Refute it at one input. -/
def statRisesWrong : ChangeSpec := { name := "statRises", fn := fun _ => fun
  | [d1, d2, d3, d4] => { results := [.lit (.bool false)], args := [d1, d2, d3, d4] }
  | _ => none }
def StatRisesWrongFalsely : Prop := statRisesRow.holds Try.pinned (OpenSpec.ofChange statRisesWrong)

/-- 'osierlaw12.StatHeld': WHATEVER THE INPUT: true; the input reads as it did. -/
def statHeldSpec : ChangeSpec := { name := "statHeld", fn := fun _ => fun
  | [d1, d2] => { results := [.lit (.bool true)], args := [d1, d2] }
  | _ => none }
def statHeldRow : OpenClaim := { program := "ytfihjmbonejddaa", sum := "19c4fdbd323d1534f6943a8231157bc59a4ccf508037a42c1067ae118e08b072", func := "osier/osierlaw12.StatHeld", spec := "statHeld", apart := false }
def StatHeldSaid : Prop := statHeldRow.holds Try.pinned (OpenSpec.ofChange statHeldSpec)

/-- ITS FALSE NEIGHBOUR: 'it returns false'. Refute it at one input. -/
def statHeldWrong : ChangeSpec := { name := "statHeld", fn := fun _ => fun
  | [d1, d2] => { results := [.lit (.bool false)], args := [d1, d2] }
  | _ => none }
def StatHeldWrongFalsely : Prop := statHeldRow.holds Try.pinned (OpenSpec.ofChange statHeldWrong)

/-- 'osierlaw12.StatParts': WHATEVER THE INPUT: true; the input reads as it did. -/
def statPartsSpec : ChangeSpec := { name := "statParts", fn := fun _ => fun
  | [d1, d2, d3, d4] => { results := [.lit (.bool true)], args := [d1, d2, d3, d4] }
  | _ => none }
def statPartsRow : OpenClaim := { program := "ytfihjmbonejddaa", sum := "19c4fdbd323d1534f6943a8231157bc59a4ccf508037a42c1067ae118e08b072", func := "osier/osierlaw12.StatParts", spec := "statParts", apart := false }
def StatPartsSaid : Prop := statPartsRow.holds Try.pinned (OpenSpec.ofChange statPartsSpec)

/-- ITS FALSE NEIGHBOUR: 'it returns false'. Refute it at one input. -/
def statPartsWrong : ChangeSpec := { name := "statParts", fn := fun _ => fun
  | [d1, d2, d3, d4] => { results := [.lit (.bool false)], args := [d1, d2, d3, d4] }
  | _ => none }
def StatPartsWrongFalsely : Prop := statPartsRow.holds Try.pinned (OpenSpec.ofChange statPartsWrong)

/-- 'osierlaw12.StatOff': WHATEVER THE INPUT: true; the input reads as it did. -/
def statOffSpec : ChangeSpec := { name := "statOff", fn := fun _ => fun
  | [d1, d2, d3] => { results := [.lit (.bool true)], args := [d1, d2, d3] }
  | _ => none }
def statOffRow : OpenClaim := { program := "ytfihjmbonejddaa", sum := "19c4fdbd323d1534f6943a8231157bc59a4ccf508037a42c1067ae118e08b072", func := "osier/osierlaw12.StatOff", spec := "statOff", apart := false }
def StatOffSaid : Prop := statOffRow.holds Try.pinned (OpenSpec.ofChange statOffSpec)

/-- ITS FALSE NEIGHBOUR: 'it returns false'. Refute it at one input. -/
def statOffWrong : ChangeSpec := { name := "statOff", fn := fun _ => fun
  | [d1, d2, d3] => { results := [.lit (.bool false)], args := [d1, d2, d3] }
  | _ => none }
def StatOffWrongFalsely : Prop := statOffRow.holds Try.pinned (OpenSpec.ofChange statOffWrong)

/- THE SECOND FORM. 'bulk': how many values and letters a reading holds, each counted each time it is reached (what is shared counts as often as it is met; a slice's spare places count too). A statement '..UptoSaid' is the law's where the arguments, and the package variables that the reading takes, are together of bulk at most 1048576: NARROWER than '..Said'. Prove '..Said' where nothing that the law and all that it calls make is longer than what came in: it says more and counts as full. Else prove '..UptoSaid'. A law counts once. -/
mutual
def uptoBulk {H : Type} : DataW H → Nat
  | .lit (.string bytes) => bytes.length + 1
  | .lit _ => 1
  | .nil => 1
  | .ptr d => uptoBulk d + 1
  | .slice elems spare => uptoBulkAll elems + uptoBulkAll spare + 1
  | .agg parts => uptoBulkAll parts + 1
  | .iface _ d => uptoBulk d + 1
  | .map entries => uptoBulkEntries entries + 1
  | .held _ => 1
def uptoBulkAll {H : Type} : List (DataW H) → Nat
  | [] => 0
  | d :: r => uptoBulk d + uptoBulkAll r
def uptoBulkEntries {H : Type} : List (Lit × DataW H) → Nat
  | [] => 0
  | x :: r => uptoBulkEntry x + uptoBulkEntries r
def uptoBulkEntry {H : Type} : Lit × DataW H → Nat
  | (.string bytes, d) => bytes.length + uptoBulk d + 1
  | (_, d) => uptoBulk d + 1
 end
def uptoSmall : (H : Type) → List (DataW H) → Bool := fun _ ds => decide (uptoBulkAll ds ≤ 1048576)
def OpenSpec.upto (s : _root_.Go.ChangeSpec) : _root_.Go.OpenSpec := { _root_.Go.OpenSpec.ofChange s with cond := some uptoSmall }

/-- 'osierlaw11.PolicyForms', WHERE WHAT IT READS IS OF BULK AT MOST 1048576: true; the input reads as it did. -/
def policyFormsUptoRow : OpenClaim := { program := "ytfihjmbonejddaa", sum := "19c4fdbd323d1534f6943a8231157bc59a4ccf508037a42c1067ae118e08b072", func := "osier/osierlaw11.PolicyForms", spec := "policyForms", apart := false, narrowed := true }
def PolicyFormsUptoSaid : Prop := policyFormsUptoRow.holds Try.pinned (OpenSpec.upto policyFormsSpec)

/-- 'osierlaw11.PolicyStays', WHERE WHAT IT READS IS OF BULK AT MOST 1048576: true; the input reads as it did. -/
def policyStaysUptoRow : OpenClaim := { program := "ytfihjmbonejddaa", sum := "19c4fdbd323d1534f6943a8231157bc59a4ccf508037a42c1067ae118e08b072", func := "osier/osierlaw11.PolicyStays", spec := "policyStays", apart := false, narrowed := true }
def PolicyStaysUptoSaid : Prop := policyStaysUptoRow.holds Try.pinned (OpenSpec.upto policyStaysSpec)

/-- 'osierlaw11.PolicyEach', WHERE WHAT IT READS IS OF BULK AT MOST 1048576: true; the input reads as it did. -/
def policyEachUptoRow : OpenClaim := { program := "ytfihjmbonejddaa", sum := "19c4fdbd323d1534f6943a8231157bc59a4ccf508037a42c1067ae118e08b072", func := "osier/osierlaw11.PolicyEach", spec := "policyEach", apart := false, narrowed := true }
def PolicyEachUptoSaid : Prop := policyEachUptoRow.holds Try.pinned (OpenSpec.upto policyEachSpec)

/-- 'osierlaw11.PolicyEdges', WHERE WHAT IT READS IS OF BULK AT MOST 1048576: true; the input reads as it did. -/
def policyEdgesUptoRow : OpenClaim := { program := "ytfihjmbonejddaa", sum := "19c4fdbd323d1534f6943a8231157bc59a4ccf508037a42c1067ae118e08b072", func := "osier/osierlaw11.PolicyEdges", spec := "policyEdges", apart := false, narrowed := true }
def PolicyEdgesUptoSaid : Prop := policyEdgesUptoRow.holds Try.pinned (OpenSpec.upto policyEdgesSpec)

/-- 'osierlaw12.StatForms', WHERE WHAT IT READS IS OF BULK AT MOST 1048576: true; the input reads as it did. -/
def statFormsUptoRow : OpenClaim := { program := "ytfihjmbonejddaa", sum := "19c4fdbd323d1534f6943a8231157bc59a4ccf508037a42c1067ae118e08b072", func := "osier/osierlaw12.StatForms", spec := "statForms", apart := false, narrowed := true }
def StatFormsUptoSaid : Prop := statFormsUptoRow.holds Try.pinned (OpenSpec.upto statFormsSpec)

/-- 'osierlaw12.StatRises', WHERE WHAT IT READS IS OF BULK AT MOST 1048576: true; the input reads as it did. -/
def statRisesUptoRow : OpenClaim := { program := "ytfihjmbonejddaa", sum := "19c4fdbd323d1534f6943a8231157bc59a4ccf508037a42c1067ae118e08b072", func := "osier/osierlaw12.StatRises", spec := "statRises", apart := false, narrowed := true }
def StatRisesUptoSaid : Prop := statRisesUptoRow.holds Try.pinned (OpenSpec.upto statRisesSpec)

/-- 'osierlaw12.StatHeld', WHERE WHAT IT READS IS OF BULK AT MOST 1048576: true; the input reads as it did. -/
def statHeldUptoRow : OpenClaim := { program := "ytfihjmbonejddaa", sum := "19c4fdbd323d1534f6943a8231157bc59a4ccf508037a42c1067ae118e08b072", func := "osier/osierlaw12.StatHeld", spec := "statHeld", apart := false, narrowed := true }
def StatHeldUptoSaid : Prop := statHeldUptoRow.holds Try.pinned (OpenSpec.upto statHeldSpec)

/-- 'osierlaw12.StatParts', WHERE WHAT IT READS IS OF BULK AT MOST 1048576: true; the input reads as it did. -/
def statPartsUptoRow : OpenClaim := { program := "ytfihjmbonejddaa", sum := "19c4fdbd323d1534f6943a8231157bc59a4ccf508037a42c1067ae118e08b072", func := "osier/osierlaw12.StatParts", spec := "statParts", apart := false, narrowed := true }
def StatPartsUptoSaid : Prop := statPartsUptoRow.holds Try.pinned (OpenSpec.upto statPartsSpec)

/-- 'osierlaw12.StatOff', WHERE WHAT IT READS IS OF BULK AT MOST 1048576: true; the input reads as it did. -/
def statOffUptoRow : OpenClaim := { program := "ytfihjmbonejddaa", sum := "19c4fdbd323d1534f6943a8231157bc59a4ccf508037a42c1067ae118e08b072", func := "osier/osierlaw12.StatOff", spec := "statOff", apart := false, narrowed := true }
def StatOffUptoSaid : Prop := statOffUptoRow.holds Try.pinned (OpenSpec.upto statOffSpec)

end Rows
end Go.Proofs.Ytfihjmbonejddaa
