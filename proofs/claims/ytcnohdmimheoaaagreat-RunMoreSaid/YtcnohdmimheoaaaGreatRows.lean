/-
  No cell of these rows narrows 'for every input' (looked for: loops, veiled, ifaces, maps, wideKeys, modest, calm, conditions, laid).
  DERIVED. THE GIVEN ROWS OF THIS SEAT. 8 by the template 'for every input the law returns true; each argument reads behind the call as it read before'; 0 by the template 'total and deterministic' (their statements: YtcnohdmimheoaaaGreatTotals.lean).
  GIVEN WITH THE SEED: the statements are not yours to turn. If you find one false, say at which input.
  Laid BY PROGRAM, IN A SANDBOX (cutbox-rows.mjs): the forced cells as the released guide's own fill.sh prints them over the translation 221f50499476df59… (all of the seat's roots in one cut). By AI agents, Wed Nov 11 2026. No macro, syntax, notation, axiom, sorry.
-/
import Derived.Test.YtcnohdmimheoaaaGreatChecked
import GoSem.Claim
import GoSem.ClaimJoined
import GoSem.ClaimMapViews
import Derived.JoinedTies
import Derived.KernelRfl
namespace Go.Proofs.YtcnohdmimheoaaaGreat
/- THE CELL 'sum', in the pinned program and in every row, IS THE sha256 OF THE DUMP (.gsa) THAT YtcnohdmimheoaaaGreatProg.lean LOADS. Nothing in Lean hashes anything: it is a label: what it is worth is what the hold of that sum in a sandbox is worth. -/
noncomputable def Tryz.pinned : Pinned := { name := "ytcnohdmimheoaaagreat", sum := "221f50499476df59976a4323ad042f05f1d7df7983fd4e3a02f6636ce4230e92", checked := Tryz.checked }
namespace Rows
def none {H : Type} : Left H := { results := [], args := [] }

/-- 'osiertop.TopRoom': WHATEVER THE INPUT: true; the input reads as it did. -/
def topRoomSpec : ChangeSpec := { name := "topRoom", fn := fun _ => fun
  | [d1, d2] => { results := [.lit (.bool true)], args := [d1, d2] }
  | _ => none }
def topRoomRow : OpenClaim := { program := "ytcnohdmimheoaaagreat", sum := "221f50499476df59976a4323ad042f05f1d7df7983fd4e3a02f6636ce4230e92", func := "osier/osiertop.TopRoom", spec := "topRoom", unfollowed := true, recurses := true, apart := false }
def TopRoomSaid : Prop := topRoomRow.holds Tryz.pinned (OpenSpec.ofChange topRoomSpec)

/-- ITS FALSE NEIGHBOUR: 'it returns false'. Refute it at one input. -/
def topRoomWrong : ChangeSpec := { name := "topRoom", fn := fun _ => fun
  | [d1, d2] => { results := [.lit (.bool false)], args := [d1, d2] }
  | _ => none }
def TopRoomWrongFalsely : Prop := topRoomRow.holds Tryz.pinned (OpenSpec.ofChange topRoomWrong)

/-- 'osiertop.TopPolicies': WHATEVER THE INPUT: true; the input reads as it did. -/
def topPoliciesSpec : ChangeSpec := { name := "topPolicies", fn := fun _ => fun
  | [d1, d2] => { results := [.lit (.bool true)], args := [d1, d2] }
  | _ => none }
def topPoliciesRow : OpenClaim := { program := "ytcnohdmimheoaaagreat", sum := "221f50499476df59976a4323ad042f05f1d7df7983fd4e3a02f6636ce4230e92", func := "osier/osiertop.TopPolicies", spec := "topPolicies", unfollowed := true, recurses := true, apart := false }
def TopPoliciesSaid : Prop := topPoliciesRow.holds Tryz.pinned (OpenSpec.ofChange topPoliciesSpec)

/-- ITS FALSE NEIGHBOUR: 'it returns false'. Refute it at one input. -/
def topPoliciesWrong : ChangeSpec := { name := "topPolicies", fn := fun _ => fun
  | [d1, d2] => { results := [.lit (.bool false)], args := [d1, d2] }
  | _ => none }
def TopPoliciesWrongFalsely : Prop := topPoliciesRow.holds Tryz.pinned (OpenSpec.ofChange topPoliciesWrong)

/-- 'osierlaw26.RunMore': WHATEVER THE INPUT: true; the input reads as it did. -/
def runMoreSpec : ChangeSpec := { name := "runMore", fn := fun _ => fun
  | [d1, d2] => { results := [.lit (.bool true)], args := [d1, d2] }
  | _ => none }
def runMoreRow : OpenClaim := { program := "ytcnohdmimheoaaagreat", sum := "221f50499476df59976a4323ad042f05f1d7df7983fd4e3a02f6636ce4230e92", func := "osier/osierlaw26.RunMore", spec := "runMore", unfollowed := true, recurses := true, apart := false }
def RunMoreSaid : Prop := runMoreRow.holds Tryz.pinned (OpenSpec.ofChange runMoreSpec)

/-- ITS FALSE NEIGHBOUR: 'it returns false'. Refute it at one input. -/
def runMoreWrong : ChangeSpec := { name := "runMore", fn := fun _ => fun
  | [d1, d2] => { results := [.lit (.bool false)], args := [d1, d2] }
  | _ => none }
def RunMoreWrongFalsely : Prop := runMoreRow.holds Tryz.pinned (OpenSpec.ofChange runMoreWrong)

/-- 'osierlaw26.RunKeys': WHATEVER THE INPUT: true; the input reads as it did. -/
def runKeysSpec : ChangeSpec := { name := "runKeys", fn := fun _ => fun
  | [d1, d2, d3, d4] => { results := [.lit (.bool true)], args := [d1, d2, d3, d4] }
  | _ => none }
def runKeysRow : OpenClaim := { program := "ytcnohdmimheoaaagreat", sum := "221f50499476df59976a4323ad042f05f1d7df7983fd4e3a02f6636ce4230e92", func := "osier/osierlaw26.RunKeys", spec := "runKeys", unfollowed := true, recurses := true, apart := false }
def RunKeysSaid : Prop := runKeysRow.holds Tryz.pinned (OpenSpec.ofChange runKeysSpec)

/-- ITS FALSE NEIGHBOUR: 'it returns false'. Refute it at one input. -/
def runKeysWrong : ChangeSpec := { name := "runKeys", fn := fun _ => fun
  | [d1, d2, d3, d4] => { results := [.lit (.bool false)], args := [d1, d2, d3, d4] }
  | _ => none }
def RunKeysWrongFalsely : Prop := runKeysRow.holds Tryz.pinned (OpenSpec.ofChange runKeysWrong)

/-- 'osierlaw26.RunCuts': WHATEVER THE INPUT: true; the input reads as it did. -/
def runCutsSpec : ChangeSpec := { name := "runCuts", fn := fun _ => fun
  | [d1, d2, d3, d4] => { results := [.lit (.bool true)], args := [d1, d2, d3, d4] }
  | _ => none }
def runCutsRow : OpenClaim := { program := "ytcnohdmimheoaaagreat", sum := "221f50499476df59976a4323ad042f05f1d7df7983fd4e3a02f6636ce4230e92", func := "osier/osierlaw26.RunCuts", spec := "runCuts", unfollowed := true, recurses := true, apart := false }
def RunCutsSaid : Prop := runCutsRow.holds Tryz.pinned (OpenSpec.ofChange runCutsSpec)

/-- ITS FALSE NEIGHBOUR: 'it returns false'. Refute it at one input. -/
def runCutsWrong : ChangeSpec := { name := "runCuts", fn := fun _ => fun
  | [d1, d2, d3, d4] => { results := [.lit (.bool false)], args := [d1, d2, d3, d4] }
  | _ => none }
def RunCutsWrongFalsely : Prop := runCutsRow.holds Tryz.pinned (OpenSpec.ofChange runCutsWrong)

/-- 'osierlaw26.RunAlone': WHATEVER THE INPUT: true; the input reads as it did. -/
def runAloneSpec : ChangeSpec := { name := "runAlone", fn := fun _ => fun
  | [d] => { results := [.lit (.bool true)], args := [d] }
  | _ => none }
def runAloneRow : OpenClaim := { program := "ytcnohdmimheoaaagreat", sum := "221f50499476df59976a4323ad042f05f1d7df7983fd4e3a02f6636ce4230e92", func := "osier/osierlaw26.RunAlone", spec := "runAlone", unfollowed := true, recurses := true, apart := false }
def RunAloneSaid : Prop := runAloneRow.holds Tryz.pinned (OpenSpec.ofChange runAloneSpec)

/-- ITS FALSE NEIGHBOUR: 'it returns false'. Refute it at one input. -/
def runAloneWrong : ChangeSpec := { name := "runAlone", fn := fun _ => fun
  | [d] => { results := [.lit (.bool false)], args := [d] }
  | _ => none }
def RunAloneWrongFalsely : Prop := runAloneRow.holds Tryz.pinned (OpenSpec.ofChange runAloneWrong)

/-- 'osierlaw26.RunPlays': WHATEVER THE INPUT: true; the input reads as it did. -/
def runPlaysSpec : ChangeSpec := { name := "runPlays", fn := fun _ => fun
  | [d] => { results := [.lit (.bool true)], args := [d] }
  | _ => none }
def runPlaysRow : OpenClaim := { program := "ytcnohdmimheoaaagreat", sum := "221f50499476df59976a4323ad042f05f1d7df7983fd4e3a02f6636ce4230e92", func := "osier/osierlaw26.RunPlays", spec := "runPlays", unfollowed := true, recurses := true, apart := false }
def RunPlaysSaid : Prop := runPlaysRow.holds Tryz.pinned (OpenSpec.ofChange runPlaysSpec)

/-- ITS FALSE NEIGHBOUR: 'it returns false'. Refute it at one input. -/
def runPlaysWrong : ChangeSpec := { name := "runPlays", fn := fun _ => fun
  | [d] => { results := [.lit (.bool false)], args := [d] }
  | _ => none }
def RunPlaysWrongFalsely : Prop := runPlaysRow.holds Tryz.pinned (OpenSpec.ofChange runPlaysWrong)

/-- 'osierlaw26.RunWhole': WHATEVER THE INPUT: true; the input reads as it did. -/
def runWholeSpec : ChangeSpec := { name := "runWhole", fn := fun _ => fun
  | [d] => { results := [.lit (.bool true)], args := [d] }
  | _ => none }
def runWholeRow : OpenClaim := { program := "ytcnohdmimheoaaagreat", sum := "221f50499476df59976a4323ad042f05f1d7df7983fd4e3a02f6636ce4230e92", func := "osier/osierlaw26.RunWhole", spec := "runWhole", unfollowed := true, recurses := true, apart := false }
def RunWholeSaid : Prop := runWholeRow.holds Tryz.pinned (OpenSpec.ofChange runWholeSpec)

/-- ITS FALSE NEIGHBOUR: 'it returns false'. Refute it at one input. -/
def runWholeWrong : ChangeSpec := { name := "runWhole", fn := fun _ => fun
  | [d] => { results := [.lit (.bool false)], args := [d] }
  | _ => none }
def RunWholeWrongFalsely : Prop := runWholeRow.holds Tryz.pinned (OpenSpec.ofChange runWholeWrong)

/- THE SECOND FORM. 'bulk': how many values and letters a reading holds, each counted each time it is reached (what is shared counts as often as it is met; a slice's spare places count too). A statement '..UptoSaid' is the law's where the arguments, and the package variables that the reading takes, are together of bulk at most 1048576: NARROWER than '..Said'. Prove '..Said' where nothing that the law and all that it calls make is longer than what came in: it says more and counts as full. Else prove '..UptoSaid'. A law counts once. -/
mutual
def uptoBulk {H : Type} : DataW H → Nat
  | .lit (.string bytes) => bytes.length + 1
  | .lit _ => 1
  | .nil => 1
  | .ptr d => uptoBulk d + 1
  | .slice elems spare => uptoBulkAll elems + uptoBulkAll spare + 1
  | .agg parts => uptoBulkAll parts + 1
  | .iface _ d => uptoBulk d + 1
  | .map entries => uptoBulkEntries entries + 1
  | .held _ => 1
def uptoBulkAll {H : Type} : List (DataW H) → Nat
  | [] => 0
  | d :: r => uptoBulk d + uptoBulkAll r
def uptoBulkEntries {H : Type} : List (Lit × DataW H) → Nat
  | [] => 0
  | x :: r => uptoBulkEntry x + uptoBulkEntries r
def uptoBulkEntry {H : Type} : Lit × DataW H → Nat
  | (.string bytes, d) => bytes.length + uptoBulk d + 1
  | (_, d) => uptoBulk d + 1
 end
def uptoSmall : (H : Type) → List (DataW H) → Bool := fun _ ds => decide (uptoBulkAll ds ≤ 1048576)
def OpenSpec.upto (s : _root_.Go.ChangeSpec) : _root_.Go.OpenSpec := { _root_.Go.OpenSpec.ofChange s with cond := some uptoSmall }

/-- 'osiertop.TopRoom', WHERE WHAT IT READS IS OF BULK AT MOST 1048576: true; the input reads as it did. -/
def topRoomUptoRow : OpenClaim := { program := "ytcnohdmimheoaaagreat", sum := "221f50499476df59976a4323ad042f05f1d7df7983fd4e3a02f6636ce4230e92", func := "osier/osiertop.TopRoom", spec := "topRoom", unfollowed := true, recurses := true, apart := false, narrowed := true }
def TopRoomUptoSaid : Prop := topRoomUptoRow.holds Tryz.pinned (OpenSpec.upto topRoomSpec)

/-- 'osiertop.TopPolicies', WHERE WHAT IT READS IS OF BULK AT MOST 1048576: true; the input reads as it did. -/
def topPoliciesUptoRow : OpenClaim := { program := "ytcnohdmimheoaaagreat", sum := "221f50499476df59976a4323ad042f05f1d7df7983fd4e3a02f6636ce4230e92", func := "osier/osiertop.TopPolicies", spec := "topPolicies", unfollowed := true, recurses := true, apart := false, narrowed := true }
def TopPoliciesUptoSaid : Prop := topPoliciesUptoRow.holds Tryz.pinned (OpenSpec.upto topPoliciesSpec)

/-- 'osierlaw26.RunMore', WHERE WHAT IT READS IS OF BULK AT MOST 1048576: true; the input reads as it did. -/
def runMoreUptoRow : OpenClaim := { program := "ytcnohdmimheoaaagreat", sum := "221f50499476df59976a4323ad042f05f1d7df7983fd4e3a02f6636ce4230e92", func := "osier/osierlaw26.RunMore", spec := "runMore", unfollowed := true, recurses := true, apart := false, narrowed := true }
def RunMoreUptoSaid : Prop := runMoreUptoRow.holds Tryz.pinned (OpenSpec.upto runMoreSpec)

/-- 'osierlaw26.RunKeys', WHERE WHAT IT READS IS OF BULK AT MOST 1048576: true; the input reads as it did. -/
def runKeysUptoRow : OpenClaim := { program := "ytcnohdmimheoaaagreat", sum := "221f50499476df59976a4323ad042f05f1d7df7983fd4e3a02f6636ce4230e92", func := "osier/osierlaw26.RunKeys", spec := "runKeys", unfollowed := true, recurses := true, apart := false, narrowed := true }
def RunKeysUptoSaid : Prop := runKeysUptoRow.holds Tryz.pinned (OpenSpec.upto runKeysSpec)

/-- 'osierlaw26.RunCuts', WHERE WHAT IT READS IS OF BULK AT MOST 1048576: true; the input reads as it did. -/
def runCutsUptoRow : OpenClaim := { program := "ytcnohdmimheoaaagreat", sum := "221f50499476df59976a4323ad042f05f1d7df7983fd4e3a02f6636ce4230e92", func := "osier/osierlaw26.RunCuts", spec := "runCuts", unfollowed := true, recurses := true, apart := false, narrowed := true }
def RunCutsUptoSaid : Prop := runCutsUptoRow.holds Tryz.pinned (OpenSpec.upto runCutsSpec)

/-- 'osierlaw26.RunAlone', WHERE WHAT IT READS IS OF BULK AT MOST 1048576: true; the input reads as it did. -/
def runAloneUptoRow : OpenClaim := { program := "ytcnohdmimheoaaagreat", sum := "221f50499476df59976a4323ad042f05f1d7df7983fd4e3a02f6636ce4230e92", func := "osier/osierlaw26.RunAlone", spec := "runAlone", unfollowed := true, recurses := true, apart := false, narrowed := true }
def RunAloneUptoSaid : Prop := runAloneUptoRow.holds Tryz.pinned (OpenSpec.upto runAloneSpec)

/-- 'osierlaw26.RunPlays', WHERE WHAT IT READS IS OF BULK AT MOST 1048576: true; the input reads as it did. -/
def runPlaysUptoRow : OpenClaim := { program := "ytcnohdmimheoaaagreat", sum := "221f50499476df59976a4323ad042f05f1d7df7983fd4e3a02f6636ce4230e92", func := "osier/osierlaw26.RunPlays", spec := "runPlays", unfollowed := true, recurses := true, apart := false, narrowed := true }
def RunPlaysUptoSaid : Prop := runPlaysUptoRow.holds Tryz.pinned (OpenSpec.upto runPlaysSpec)

/-- 'osierlaw26.RunWhole', WHERE WHAT IT READS IS OF BULK AT MOST 1048576: true; the input reads as it did. -/
def runWholeUptoRow : OpenClaim := { program := "ytcnohdmimheoaaagreat", sum := "221f50499476df59976a4323ad042f05f1d7df7983fd4e3a02f6636ce4230e92", func := "osier/osierlaw26.RunWhole", spec := "runWhole", unfollowed := true, recurses := true, apart := false, narrowed := true }
def RunWholeUptoSaid : Prop := runWholeUptoRow.holds Tryz.pinned (OpenSpec.upto runWholeSpec)

end Rows
end Go.Proofs.YtcnohdmimheoaaaGreat
