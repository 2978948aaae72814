/-
  No cell of these rows narrows 'for every input' (looked for: loops, veiled, ifaces, maps, wideKeys, modest, calm, conditions, laid).
  DERIVED. THE GIVEN ROWS OF THIS SEAT. 17 by the template 'for every input the law returns true; each argument reads behind the call as it read before'; 0 by the template 'total and deterministic' (their statements: YtmkodknmknfdkaaTotals.lean).
  GIVEN WITH THE SEED: the statements are not yours to turn. If you find one false, say at which input.
  Laid BY PROGRAM, IN A SANDBOX (cutbox-rows.mjs): the forced cells as the released guide's own fill.sh prints them over the translation 3750c70507b29be6… (all of the seat's roots in one cut). By AI agents, Wed Nov 11 2026. No macro, syntax, notation, axiom, sorry.
-/
import Derived.Test.YtmkodknmknfdkaaChecked
import GoSem.Claim
import GoSem.ClaimJoined
import GoSem.ClaimMapViews
import Derived.JoinedTies
import Derived.KernelRfl
namespace Go.Proofs.Ytmkodknmknfdkaa
/- THE CELL 'sum', in the pinned program and in every row, IS THE sha256 OF THE DUMP (.gsa) THAT YtmkodknmknfdkaaProg.lean LOADS. Nothing in Lean hashes anything: it is a label: what it is worth is what the hold of that sum in a sandbox is worth. -/
noncomputable def Try.pinned : Pinned := { name := "ytmkodknmknfdkaa", sum := "3750c70507b29be6807ae5709b8289c245a02d51c6e2b68dc7e3164d4a4a4d3e", checked := Try.checked }
namespace Rows
def none {H : Type} : Left H := { results := [], args := [] }

/-- 'osierlaw14.TreeSpoilt': WHATEVER THE INPUT: true; the input reads as it did. -/
def treeSpoiltSpec : ChangeSpec := { name := "treeSpoilt", fn := fun _ => fun
  | [d1, d2, d3] => { results := [.lit (.bool true)], args := [d1, d2, d3] }
  | _ => none }
def treeSpoiltRow : OpenClaim := { program := "ytmkodknmknfdkaa", sum := "3750c70507b29be6807ae5709b8289c245a02d51c6e2b68dc7e3164d4a4a4d3e", func := "osier/osierlaw14.TreeSpoilt", spec := "treeSpoilt", unfollowed := true, recurses := true, apart := false }
def TreeSpoiltSaid : Prop := treeSpoiltRow.holds Try.pinned (OpenSpec.ofChange treeSpoiltSpec)

/-- ITS FALSE NEIGHBOUR: 'it returns false'. Refute it at one input. -/
def treeSpoiltWrong : ChangeSpec := { name := "treeSpoilt", fn := fun _ => fun
  | [d1, d2, d3] => { results := [.lit (.bool false)], args := [d1, d2, d3] }
  | _ => none }
def TreeSpoiltWrongFalsely : Prop := treeSpoiltRow.holds Try.pinned (OpenSpec.ofChange treeSpoiltWrong)

/-- 'osierlaw14.TreeCounts': WHATEVER THE INPUT: true; the input reads as it did. -/
def treeCountsSpec : ChangeSpec := { name := "treeCounts", fn := fun _ => fun
  | [d] => { results := [.lit (.bool true)], args := [d] }
  | _ => none }
def treeCountsRow : OpenClaim := { program := "ytmkodknmknfdkaa", sum := "3750c70507b29be6807ae5709b8289c245a02d51c6e2b68dc7e3164d4a4a4d3e", func := "osier/osierlaw14.TreeCounts", spec := "treeCounts", unfollowed := true, recurses := true, apart := false }
def TreeCountsSaid : Prop := treeCountsRow.holds Try.pinned (OpenSpec.ofChange treeCountsSpec)

/-- ITS FALSE NEIGHBOUR: 'it returns false'. Refute it at one input. -/
def treeCountsWrong : ChangeSpec := { name := "treeCounts", fn := fun _ => fun
  | [d] => { results := [.lit (.bool false)], args := [d] }
  | _ => none }
def TreeCountsWrongFalsely : Prop := treeCountsRow.holds Try.pinned (OpenSpec.ofChange treeCountsWrong)

/-- 'osierlaw14.TreeOne': WHATEVER THE INPUT: true; the input reads as it did. -/
def treeOneSpec : ChangeSpec := { name := "treeOne", fn := fun _ => fun
  | [d1, d2] => { results := [.lit (.bool true)], args := [d1, d2] }
  | _ => none }
def treeOneRow : OpenClaim := { program := "ytmkodknmknfdkaa", sum := "3750c70507b29be6807ae5709b8289c245a02d51c6e2b68dc7e3164d4a4a4d3e", func := "osier/osierlaw14.TreeOne", spec := "treeOne", unfollowed := true, recurses := true, apart := false }
def TreeOneSaid : Prop := treeOneRow.holds Try.pinned (OpenSpec.ofChange treeOneSpec)

/-- ITS FALSE NEIGHBOUR: 'it returns false'. Refute it at one input. -/
def treeOneWrong : ChangeSpec := { name := "treeOne", fn := fun _ => fun
  | [d1, d2] => { results := [.lit (.bool false)], args := [d1, d2] }
  | _ => none }
def TreeOneWrongFalsely : Prop := treeOneRow.holds Try.pinned (OpenSpec.ofChange treeOneWrong)

/-- 'osierlaw14.TreeOnly': WHATEVER THE INPUT: true; the input reads as it did. -/
def treeOnlySpec : ChangeSpec := { name := "treeOnly", fn := fun _ => fun
  | [d1, d2, d3] => { results := [.lit (.bool true)], args := [d1, d2, d3] }
  | _ => none }
def treeOnlyRow : OpenClaim := { program := "ytmkodknmknfdkaa", sum := "3750c70507b29be6807ae5709b8289c245a02d51c6e2b68dc7e3164d4a4a4d3e", func := "osier/osierlaw14.TreeOnly", spec := "treeOnly", unfollowed := true, recurses := true, apart := false }
def TreeOnlySaid : Prop := treeOnlyRow.holds Try.pinned (OpenSpec.ofChange treeOnlySpec)

/-- ITS FALSE NEIGHBOUR: 'it returns false'. Refute it at one input. -/
def treeOnlyWrong : ChangeSpec := { name := "treeOnly", fn := fun _ => fun
  | [d1, d2, d3] => { results := [.lit (.bool false)], args := [d1, d2, d3] }
  | _ => none }
def TreeOnlyWrongFalsely : Prop := treeOnlyRow.holds Try.pinned (OpenSpec.ofChange treeOnlyWrong)

/-- 'osierlaw14.TreePlain': WHATEVER THE INPUT: true; the input reads as it did. -/
def treePlainSpec : ChangeSpec := { name := "treePlain", fn := fun _ => fun
  | [d1, d2] => { results := [.lit (.bool true)], args := [d1, d2] }
  | _ => none }
def treePlainRow : OpenClaim := { program := "ytmkodknmknfdkaa", sum := "3750c70507b29be6807ae5709b8289c245a02d51c6e2b68dc7e3164d4a4a4d3e", func := "osier/osierlaw14.TreePlain", spec := "treePlain", unfollowed := true, recurses := true, apart := false }
def TreePlainSaid : Prop := treePlainRow.holds Try.pinned (OpenSpec.ofChange treePlainSpec)

/-- ITS FALSE NEIGHBOUR: 'it returns false'. Refute it at one input. -/
def treePlainWrong : ChangeSpec := { name := "treePlain", fn := fun _ => fun
  | [d1, d2] => { results := [.lit (.bool false)], args := [d1, d2] }
  | _ => none }
def TreePlainWrongFalsely : Prop := treePlainRow.holds Try.pinned (OpenSpec.ofChange treePlainWrong)

/-- 'osierlaw14.TreeForms': WHATEVER THE INPUT: true; the input reads as it did. -/
def treeFormsSpec : ChangeSpec := { name := "treeForms", fn := fun _ => fun
  | [d1, d2, d3, d4, d5, d6] => { results := [.lit (.bool true)], args := [d1, d2, d3, d4, d5, d6] }
  | _ => none }
def treeFormsRow : OpenClaim := { program := "ytmkodknmknfdkaa", sum := "3750c70507b29be6807ae5709b8289c245a02d51c6e2b68dc7e3164d4a4a4d3e", func := "osier/osierlaw14.TreeForms", spec := "treeForms", unfollowed := true, recurses := true, apart := false }
def TreeFormsSaid : Prop := treeFormsRow.holds Try.pinned (OpenSpec.ofChange treeFormsSpec)

/-- ITS FALSE NEIGHBOUR: 'it returns false'. Refute it at one input. -/
def treeFormsWrong : ChangeSpec := { name := "treeForms", fn := fun _ => fun
  | [d1, d2, d3, d4, d5, d6] => { results := [.lit (.bool false)], args := [d1, d2, d3, d4, d5, d6] }
  | _ => none }
def TreeFormsWrongFalsely : Prop := treeFormsRow.holds Try.pinned (OpenSpec.ofChange treeFormsWrong)

/-- 'osierlaw15.AdaptNext': WHATEVER THE INPUT: true; the input reads as it did. -/
def adaptNextSpec : ChangeSpec := { name := "adaptNext", fn := fun _ => fun
  | [d1, d2] => { results := [.lit (.bool true)], args := [d1, d2] }
  | _ => none }
def adaptNextRow : OpenClaim := { program := "ytmkodknmknfdkaa", sum := "3750c70507b29be6807ae5709b8289c245a02d51c6e2b68dc7e3164d4a4a4d3e", func := "osier/osierlaw15.AdaptNext", spec := "adaptNext", unfollowed := true, recurses := true, apart := false }
def AdaptNextSaid : Prop := adaptNextRow.holds Try.pinned (OpenSpec.ofChange adaptNextSpec)

/-- ITS FALSE NEIGHBOUR: 'it returns false'. Refute it at one input. -/
def adaptNextWrong : ChangeSpec := { name := "adaptNext", fn := fun _ => fun
  | [d1, d2] => { results := [.lit (.bool false)], args := [d1, d2] }
  | _ => none }
def AdaptNextWrongFalsely : Prop := adaptNextRow.holds Try.pinned (OpenSpec.ofChange adaptNextWrong)

/-- 'osierlaw15.AdaptKeeps': WHATEVER THE INPUT: true; the input reads as it did. -/
def adaptKeepsSpec : ChangeSpec := { name := "adaptKeeps", fn := fun _ => fun
  | [d1, d2] => { results := [.lit (.bool true)], args := [d1, d2] }
  | _ => none }
def adaptKeepsRow : OpenClaim := { program := "ytmkodknmknfdkaa", sum := "3750c70507b29be6807ae5709b8289c245a02d51c6e2b68dc7e3164d4a4a4d3e", func := "osier/osierlaw15.AdaptKeeps", spec := "adaptKeeps", unfollowed := true, recurses := true, apart := false }
def AdaptKeepsSaid : Prop := adaptKeepsRow.holds Try.pinned (OpenSpec.ofChange adaptKeepsSpec)

/-- ITS FALSE NEIGHBOUR: 'it returns false'. Refute it at one input. -/
def adaptKeepsWrong : ChangeSpec := { name := "adaptKeeps", fn := fun _ => fun
  | [d1, d2] => { results := [.lit (.bool false)], args := [d1, d2] }
  | _ => none }
def AdaptKeepsWrongFalsely : Prop := adaptKeepsRow.holds Try.pinned (OpenSpec.ofChange adaptKeepsWrong)

/-- 'osierlaw15.AdaptForms': WHATEVER THE INPUT: true; the input reads as it did. -/
def adaptFormsSpec : ChangeSpec := { name := "adaptForms", fn := fun _ => fun
  | [d1, d2, d3] => { results := [.lit (.bool true)], args := [d1, d2, d3] }
  | _ => none }
def adaptFormsRow : OpenClaim := { program := "ytmkodknmknfdkaa", sum := "3750c70507b29be6807ae5709b8289c245a02d51c6e2b68dc7e3164d4a4a4d3e", func := "osier/osierlaw15.AdaptForms", spec := "adaptForms", unfollowed := true, recurses := true, apart := false }
def AdaptFormsSaid : Prop := adaptFormsRow.holds Try.pinned (OpenSpec.ofChange adaptFormsSpec)

/-- ITS FALSE NEIGHBOUR: 'it returns false'. Refute it at one input. -/
def adaptFormsWrong : ChangeSpec := { name := "adaptForms", fn := fun _ => fun
  | [d1, d2, d3] => { results := [.lit (.bool false)], args := [d1, d2, d3] }
  | _ => none }
def AdaptFormsWrongFalsely : Prop := adaptFormsRow.holds Try.pinned (OpenSpec.ofChange adaptFormsWrong)

/-- 'osierlaw15.AdaptBack': WHATEVER THE INPUT: true; the input reads as it did. -/
def adaptBackSpec : ChangeSpec := { name := "adaptBack", fn := fun _ => fun
  | [d1, d2] => { results := [.lit (.bool true)], args := [d1, d2] }
  | _ => none }
def adaptBackRow : OpenClaim := { program := "ytmkodknmknfdkaa", sum := "3750c70507b29be6807ae5709b8289c245a02d51c6e2b68dc7e3164d4a4a4d3e", func := "osier/osierlaw15.AdaptBack", spec := "adaptBack", unfollowed := true, recurses := true, apart := false }
def AdaptBackSaid : Prop := adaptBackRow.holds Try.pinned (OpenSpec.ofChange adaptBackSpec)

/-- ITS FALSE NEIGHBOUR: 'it returns false'. Refute it at one input. -/
def adaptBackWrong : ChangeSpec := { name := "adaptBack", fn := fun _ => fun
  | [d1, d2] => { results := [.lit (.bool false)], args := [d1, d2] }
  | _ => none }
def AdaptBackWrongFalsely : Prop := adaptBackRow.holds Try.pinned (OpenSpec.ofChange adaptBackWrong)

/-- 'osierlaw15.AdaptBends': WHATEVER THE INPUT: true; the input reads as it did. -/
def adaptBendsSpec : ChangeSpec := { name := "adaptBends", fn := fun _ => fun
  | [d1, d2, d3, d4] => { results := [.lit (.bool true)], args := [d1, d2, d3, d4] }
  | _ => none }
def adaptBendsRow : OpenClaim := { program := "ytmkodknmknfdkaa", sum := "3750c70507b29be6807ae5709b8289c245a02d51c6e2b68dc7e3164d4a4a4d3e", func := "osier/osierlaw15.AdaptBends", spec := "adaptBends", unfollowed := true, recurses := true, apart := false }
def AdaptBendsSaid : Prop := adaptBendsRow.holds Try.pinned (OpenSpec.ofChange adaptBendsSpec)

/-- ITS FALSE NEIGHBOUR: 'it returns false'. Refute it at one input. -/
def adaptBendsWrong : ChangeSpec := { name := "adaptBends", fn := fun _ => fun
  | [d1, d2, d3, d4] => { results := [.lit (.bool false)], args := [d1, d2, d3, d4] }
  | _ => none }
def AdaptBendsWrongFalsely : Prop := adaptBendsRow.holds Try.pinned (OpenSpec.ofChange adaptBendsWrong)

/-- 'osierlaw17.SoloForms': WHATEVER THE INPUT: true; the input reads as it did. -/
def soloFormsSpec : ChangeSpec := { name := "soloForms", fn := fun _ => fun
  | [d1, d2, d3] => { results := [.lit (.bool true)], args := [d1, d2, d3] }
  | _ => none }
def soloFormsRow : OpenClaim := { program := "ytmkodknmknfdkaa", sum := "3750c70507b29be6807ae5709b8289c245a02d51c6e2b68dc7e3164d4a4a4d3e", func := "osier/osierlaw17.SoloForms", spec := "soloForms", unfollowed := true, recurses := true, apart := false }
def SoloFormsSaid : Prop := soloFormsRow.holds Try.pinned (OpenSpec.ofChange soloFormsSpec)

/-- ITS FALSE NEIGHBOUR: 'it returns false'. Refute it at one input. -/
def soloFormsWrong : ChangeSpec := { name := "soloForms", fn := fun _ => fun
  | [d1, d2, d3] => { results := [.lit (.bool false)], args := [d1, d2, d3] }
  | _ => none }
def SoloFormsWrongFalsely : Prop := soloFormsRow.holds Try.pinned (OpenSpec.ofChange soloFormsWrong)

/-- 'osierlaw17.SoloOne': WHATEVER THE INPUT: true; the input reads as it did. -/
def soloOneSpec : ChangeSpec := { name := "soloOne", fn := fun _ => fun
  | [d1, d2, d3, d4, d5] => { results := [.lit (.bool true)], args := [d1, d2, d3, d4, d5] }
  | _ => none }
def soloOneRow : OpenClaim := { program := "ytmkodknmknfdkaa", sum := "3750c70507b29be6807ae5709b8289c245a02d51c6e2b68dc7e3164d4a4a4d3e", func := "osier/osierlaw17.SoloOne", spec := "soloOne", unfollowed := true, recurses := true, apart := false }
def SoloOneSaid : Prop := soloOneRow.holds Try.pinned (OpenSpec.ofChange soloOneSpec)

/-- ITS FALSE NEIGHBOUR: 'it returns false'. Refute it at one input. -/
def soloOneWrong : ChangeSpec := { name := "soloOne", fn := fun _ => fun
  | [d1, d2, d3, d4, d5] => { results := [.lit (.bool false)], args := [d1, d2, d3, d4, d5] }
  | _ => none }
def SoloOneWrongFalsely : Prop := soloOneRow.holds Try.pinned (OpenSpec.ofChange soloOneWrong)

/-- 'osierlaw17.SoloLocal': WHATEVER THE INPUT: true; the input reads as it did. -/
def soloLocalSpec : ChangeSpec := { name := "soloLocal", fn := fun _ => fun
  | [d1, d2, d3] => { results := [.lit (.bool true)], args := [d1, d2, d3] }
  | _ => none }
def soloLocalRow : OpenClaim := { program := "ytmkodknmknfdkaa", sum := "3750c70507b29be6807ae5709b8289c245a02d51c6e2b68dc7e3164d4a4a4d3e", func := "osier/osierlaw17.SoloLocal", spec := "soloLocal", unfollowed := true, recurses := true, apart := false }
def SoloLocalSaid : Prop := soloLocalRow.holds Try.pinned (OpenSpec.ofChange soloLocalSpec)

/-- ITS FALSE NEIGHBOUR: 'it returns false'. Refute it at one input. -/
def soloLocalWrong : ChangeSpec := { name := "soloLocal", fn := fun _ => fun
  | [d1, d2, d3] => { results := [.lit (.bool false)], args := [d1, d2, d3] }
  | _ => none }
def SoloLocalWrongFalsely : Prop := soloLocalRow.holds Try.pinned (OpenSpec.ofChange soloLocalWrong)

/-- 'osierlaw17.SoloEager': WHATEVER THE INPUT: true; the input reads as it did. -/
def soloEagerSpec : ChangeSpec := { name := "soloEager", fn := fun _ => fun
  | [d] => { results := [.lit (.bool true)], args := [d] }
  | _ => none }
def soloEagerRow : OpenClaim := { program := "ytmkodknmknfdkaa", sum := "3750c70507b29be6807ae5709b8289c245a02d51c6e2b68dc7e3164d4a4a4d3e", func := "osier/osierlaw17.SoloEager", spec := "soloEager", unfollowed := true, recurses := true, apart := false }
def SoloEagerSaid : Prop := soloEagerRow.holds Try.pinned (OpenSpec.ofChange soloEagerSpec)

/-- ITS FALSE NEIGHBOUR: 'it returns false'. Refute it at one input. -/
def soloEagerWrong : ChangeSpec := { name := "soloEager", fn := fun _ => fun
  | [d] => { results := [.lit (.bool false)], args := [d] }
  | _ => none }
def SoloEagerWrongFalsely : Prop := soloEagerRow.holds Try.pinned (OpenSpec.ofChange soloEagerWrong)

/-- 'osierlaw17.SoloJoins': WHATEVER THE INPUT: true; the input reads as it did. -/
def soloJoinsSpec : ChangeSpec := { name := "soloJoins", fn := fun _ => fun
  | [d1, d2] => { results := [.lit (.bool true)], args := [d1, d2] }
  | _ => none }
def soloJoinsRow : OpenClaim := { program := "ytmkodknmknfdkaa", sum := "3750c70507b29be6807ae5709b8289c245a02d51c6e2b68dc7e3164d4a4a4d3e", func := "osier/osierlaw17.SoloJoins", spec := "soloJoins", unfollowed := true, recurses := true, apart := false }
def SoloJoinsSaid : Prop := soloJoinsRow.holds Try.pinned (OpenSpec.ofChange soloJoinsSpec)

/-- ITS FALSE NEIGHBOUR: 'it returns false'. Refute it at one input. -/
def soloJoinsWrong : ChangeSpec := { name := "soloJoins", fn := fun _ => fun
  | [d1, d2] => { results := [.lit (.bool false)], args := [d1, d2] }
  | _ => none }
def SoloJoinsWrongFalsely : Prop := soloJoinsRow.holds Try.pinned (OpenSpec.ofChange soloJoinsWrong)

/-- 'osierlaw17.SoloOff': WHATEVER THE INPUT: true; the input reads as it did. -/
def soloOffSpec : ChangeSpec := { name := "soloOff", fn := fun _ => fun
  | [d1, d2, d3, d4] => { results := [.lit (.bool true)], args := [d1, d2, d3, d4] }
  | _ => none }
def soloOffRow : OpenClaim := { program := "ytmkodknmknfdkaa", sum := "3750c70507b29be6807ae5709b8289c245a02d51c6e2b68dc7e3164d4a4a4d3e", func := "osier/osierlaw17.SoloOff", spec := "soloOff", unfollowed := true, recurses := true, apart := false }
def SoloOffSaid : Prop := soloOffRow.holds Try.pinned (OpenSpec.ofChange soloOffSpec)

/-- ITS FALSE NEIGHBOUR: 'it returns false'. Refute it at one input. -/
def soloOffWrong : ChangeSpec := { name := "soloOff", fn := fun _ => fun
  | [d1, d2, d3, d4] => { results := [.lit (.bool false)], args := [d1, d2, d3, d4] }
  | _ => none }
def SoloOffWrongFalsely : Prop := soloOffRow.holds Try.pinned (OpenSpec.ofChange soloOffWrong)

/- THE SECOND FORM. 'bulk': how many values and letters a reading holds, each counted each time it is reached (what is shared counts as often as it is met; a slice's spare places count too). A statement '..UptoSaid' is the law's where the arguments, and the package variables that the reading takes, are together of bulk at most 1048576: NARROWER than '..Said'. Prove '..Said' where nothing that the law and all that it calls make is longer than what came in: it says more and counts as full. Else prove '..UptoSaid'. A law counts once. -/
mutual
def uptoBulk {H : Type} : DataW H → Nat
  | .lit (.string bytes) => bytes.length + 1
  | .lit _ => 1
  | .nil => 1
  | .ptr d => uptoBulk d + 1
  | .slice elems spare => uptoBulkAll elems + uptoBulkAll spare + 1
  | .agg parts => uptoBulkAll parts + 1
  | .iface _ d => uptoBulk d + 1
  | .map entries => uptoBulkEntries entries + 1
  | .held _ => 1
def uptoBulkAll {H : Type} : List (DataW H) → Nat
  | [] => 0
  | d :: r => uptoBulk d + uptoBulkAll r
def uptoBulkEntries {H : Type} : List (Lit × DataW H) → Nat
  | [] => 0
  | x :: r => uptoBulkEntry x + uptoBulkEntries r
def uptoBulkEntry {H : Type} : Lit × DataW H → Nat
  | (.string bytes, d) => bytes.length + uptoBulk d + 1
  | (_, d) => uptoBulk d + 1
 end
def uptoSmall : (H : Type) → List (DataW H) → Bool := fun _ ds => decide (uptoBulkAll ds ≤ 1048576)
def OpenSpec.upto (s : _root_.Go.ChangeSpec) : _root_.Go.OpenSpec := { _root_.Go.OpenSpec.ofChange s with cond := some uptoSmall }

/-- 'osierlaw14.TreeSpoilt', WHERE WHAT IT READS IS OF BULK AT MOST 1048576: true; the input reads as it did. -/
def treeSpoiltUptoRow : OpenClaim := { program := "ytmkodknmknfdkaa", sum := "3750c70507b29be6807ae5709b8289c245a02d51c6e2b68dc7e3164d4a4a4d3e", func := "osier/osierlaw14.TreeSpoilt", spec := "treeSpoilt", unfollowed := true, recurses := true, apart := false, narrowed := true }
def TreeSpoiltUptoSaid : Prop := treeSpoiltUptoRow.holds Try.pinned (OpenSpec.upto treeSpoiltSpec)

/-- 'osierlaw14.TreeCounts', WHERE WHAT IT READS IS OF BULK AT MOST 1048576: true; the input reads as it did. -/
def treeCountsUptoRow : OpenClaim := { program := "ytmkodknmknfdkaa", sum := "3750c70507b29be6807ae5709b8289c245a02d51c6e2b68dc7e3164d4a4a4d3e", func := "osier/osierlaw14.TreeCounts", spec := "treeCounts", unfollowed := true, recurses := true, apart := false, narrowed := true }
def TreeCountsUptoSaid : Prop := treeCountsUptoRow.holds Try.pinned (OpenSpec.upto treeCountsSpec)

/-- 'osierlaw14.TreeOne', WHERE WHAT IT READS IS OF BULK AT MOST 1048576: true; the input reads as it did. -/
def treeOneUptoRow : OpenClaim := { program := "ytmkodknmknfdkaa", sum := "3750c70507b29be6807ae5709b8289c245a02d51c6e2b68dc7e3164d4a4a4d3e", func := "osier/osierlaw14.TreeOne", spec := "treeOne", unfollowed := true, recurses := true, apart := false, narrowed := true }
def TreeOneUptoSaid : Prop := treeOneUptoRow.holds Try.pinned (OpenSpec.upto treeOneSpec)

/-- 'osierlaw14.TreeOnly', WHERE WHAT IT READS IS OF BULK AT MOST 1048576: true; the input reads as it did. -/
def treeOnlyUptoRow : OpenClaim := { program := "ytmkodknmknfdkaa", sum := "3750c70507b29be6807ae5709b8289c245a02d51c6e2b68dc7e3164d4a4a4d3e", func := "osier/osierlaw14.TreeOnly", spec := "treeOnly", unfollowed := true, recurses := true, apart := false, narrowed := true }
def TreeOnlyUptoSaid : Prop := treeOnlyUptoRow.holds Try.pinned (OpenSpec.upto treeOnlySpec)

/-- 'osierlaw14.TreePlain', WHERE WHAT IT READS IS OF BULK AT MOST 1048576: true; the input reads as it did. -/
def treePlainUptoRow : OpenClaim := { program := "ytmkodknmknfdkaa", sum := "3750c70507b29be6807ae5709b8289c245a02d51c6e2b68dc7e3164d4a4a4d3e", func := "osier/osierlaw14.TreePlain", spec := "treePlain", unfollowed := true, recurses := true, apart := false, narrowed := true }
def TreePlainUptoSaid : Prop := treePlainUptoRow.holds Try.pinned (OpenSpec.upto treePlainSpec)

/-- 'osierlaw14.TreeForms', WHERE WHAT IT READS IS OF BULK AT MOST 1048576: true; the input reads as it did. -/
def treeFormsUptoRow : OpenClaim := { program := "ytmkodknmknfdkaa", sum := "3750c70507b29be6807ae5709b8289c245a02d51c6e2b68dc7e3164d4a4a4d3e", func := "osier/osierlaw14.TreeForms", spec := "treeForms", unfollowed := true, recurses := true, apart := false, narrowed := true }
def TreeFormsUptoSaid : Prop := treeFormsUptoRow.holds Try.pinned (OpenSpec.upto treeFormsSpec)

/-- 'osierlaw15.AdaptNext', WHERE WHAT IT READS IS OF BULK AT MOST 1048576: true; the input reads as it did. -/
def adaptNextUptoRow : OpenClaim := { program := "ytmkodknmknfdkaa", sum := "3750c70507b29be6807ae5709b8289c245a02d51c6e2b68dc7e3164d4a4a4d3e", func := "osier/osierlaw15.AdaptNext", spec := "adaptNext", unfollowed := true, recurses := true, apart := false, narrowed := true }
def AdaptNextUptoSaid : Prop := adaptNextUptoRow.holds Try.pinned (OpenSpec.upto adaptNextSpec)

/-- 'osierlaw15.AdaptKeeps', WHERE WHAT IT READS IS OF BULK AT MOST 1048576: true; the input reads as it did. -/
def adaptKeepsUptoRow : OpenClaim := { program := "ytmkodknmknfdkaa", sum := "3750c70507b29be6807ae5709b8289c245a02d51c6e2b68dc7e3164d4a4a4d3e", func := "osier/osierlaw15.AdaptKeeps", spec := "adaptKeeps", unfollowed := true, recurses := true, apart := false, narrowed := true }
def AdaptKeepsUptoSaid : Prop := adaptKeepsUptoRow.holds Try.pinned (OpenSpec.upto adaptKeepsSpec)

/-- 'osierlaw15.AdaptForms', WHERE WHAT IT READS IS OF BULK AT MOST 1048576: true; the input reads as it did. -/
def adaptFormsUptoRow : OpenClaim := { program := "ytmkodknmknfdkaa", sum := "3750c70507b29be6807ae5709b8289c245a02d51c6e2b68dc7e3164d4a4a4d3e", func := "osier/osierlaw15.AdaptForms", spec := "adaptForms", unfollowed := true, recurses := true, apart := false, narrowed := true }
def AdaptFormsUptoSaid : Prop := adaptFormsUptoRow.holds Try.pinned (OpenSpec.upto adaptFormsSpec)

/-- 'osierlaw15.AdaptBack', WHERE WHAT IT READS IS OF BULK AT MOST 1048576: true; the input reads as it did. -/
def adaptBackUptoRow : OpenClaim := { program := "ytmkodknmknfdkaa", sum := "3750c70507b29be6807ae5709b8289c245a02d51c6e2b68dc7e3164d4a4a4d3e", func := "osier/osierlaw15.AdaptBack", spec := "adaptBack", unfollowed := true, recurses := true, apart := false, narrowed := true }
def AdaptBackUptoSaid : Prop := adaptBackUptoRow.holds Try.pinned (OpenSpec.upto adaptBackSpec)

/-- 'osierlaw15.AdaptBends', WHERE WHAT IT READS IS OF BULK AT MOST 1048576: true; the input reads as it did. -/
def adaptBendsUptoRow : OpenClaim := { program := "ytmkodknmknfdkaa", sum := "3750c70507b29be6807ae5709b8289c245a02d51c6e2b68dc7e3164d4a4a4d3e", func := "osier/osierlaw15.AdaptBends", spec := "adaptBends", unfollowed := true, recurses := true, apart := false, narrowed := true }
def AdaptBendsUptoSaid : Prop := adaptBendsUptoRow.holds Try.pinned (OpenSpec.upto adaptBendsSpec)

/-- 'osierlaw17.SoloForms', WHERE WHAT IT READS IS OF BULK AT MOST 1048576: true; the input reads as it did. -/
def soloFormsUptoRow : OpenClaim := { program := "ytmkodknmknfdkaa", sum := "3750c70507b29be6807ae5709b8289c245a02d51c6e2b68dc7e3164d4a4a4d3e", func := "osier/osierlaw17.SoloForms", spec := "soloForms", unfollowed := true, recurses := true, apart := false, narrowed := true }
def SoloFormsUptoSaid : Prop := soloFormsUptoRow.holds Try.pinned (OpenSpec.upto soloFormsSpec)

/-- 'osierlaw17.SoloOne', WHERE WHAT IT READS IS OF BULK AT MOST 1048576: true; the input reads as it did. -/
def soloOneUptoRow : OpenClaim := { program := "ytmkodknmknfdkaa", sum := "3750c70507b29be6807ae5709b8289c245a02d51c6e2b68dc7e3164d4a4a4d3e", func := "osier/osierlaw17.SoloOne", spec := "soloOne", unfollowed := true, recurses := true, apart := false, narrowed := true }
def SoloOneUptoSaid : Prop := soloOneUptoRow.holds Try.pinned (OpenSpec.upto soloOneSpec)

/-- 'osierlaw17.SoloLocal', WHERE WHAT IT READS IS OF BULK AT MOST 1048576: true; the input reads as it did. -/
def soloLocalUptoRow : OpenClaim := { program := "ytmkodknmknfdkaa", sum := "3750c70507b29be6807ae5709b8289c245a02d51c6e2b68dc7e3164d4a4a4d3e", func := "osier/osierlaw17.SoloLocal", spec := "soloLocal", unfollowed := true, recurses := true, apart := false, narrowed := true }
def SoloLocalUptoSaid : Prop := soloLocalUptoRow.holds Try.pinned (OpenSpec.upto soloLocalSpec)

/-- 'osierlaw17.SoloEager', WHERE WHAT IT READS IS OF BULK AT MOST 1048576: true; the input reads as it did. -/
def soloEagerUptoRow : OpenClaim := { program := "ytmkodknmknfdkaa", sum := "3750c70507b29be6807ae5709b8289c245a02d51c6e2b68dc7e3164d4a4a4d3e", func := "osier/osierlaw17.SoloEager", spec := "soloEager", unfollowed := true, recurses := true, apart := false, narrowed := true }
def SoloEagerUptoSaid : Prop := soloEagerUptoRow.holds Try.pinned (OpenSpec.upto soloEagerSpec)

/-- 'osierlaw17.SoloJoins', WHERE WHAT IT READS IS OF BULK AT MOST 1048576: true; the input reads as it did. -/
def soloJoinsUptoRow : OpenClaim := { program := "ytmkodknmknfdkaa", sum := "3750c70507b29be6807ae5709b8289c245a02d51c6e2b68dc7e3164d4a4a4d3e", func := "osier/osierlaw17.SoloJoins", spec := "soloJoins", unfollowed := true, recurses := true, apart := false, narrowed := true }
def SoloJoinsUptoSaid : Prop := soloJoinsUptoRow.holds Try.pinned (OpenSpec.upto soloJoinsSpec)

/-- 'osierlaw17.SoloOff', WHERE WHAT IT READS IS OF BULK AT MOST 1048576: true; the input reads as it did. -/
def soloOffUptoRow : OpenClaim := { program := "ytmkodknmknfdkaa", sum := "3750c70507b29be6807ae5709b8289c245a02d51c6e2b68dc7e3164d4a4a4d3e", func := "osier/osierlaw17.SoloOff", spec := "soloOff", unfollowed := true, recurses := true, apart := false, narrowed := true }
def SoloOffUptoSaid : Prop := soloOffUptoRow.holds Try.pinned (OpenSpec.upto soloOffSpec)

end Rows
end Go.Proofs.Ytmkodknmknfdkaa
