/-
  No cell of these rows narrows 'for every input' (looked for: loops, veiled, ifaces, maps, wideKeys, modest, calm, conditions, laid).
  DERIVED. THE GIVEN ROWS OF THIS SEAT. 5 by the template 'for every input the law returns true; each argument reads behind the call as it read before'; 0 by the template 'total and deterministic' (their statements: YtpjikgeglhjehaaTotals.lean).
  GIVEN WITH THE SEED: the statements are not yours to turn. If you find one false, say at which input.
  Laid BY PROGRAM, IN A SANDBOX (cutbox-rows.mjs): the forced cells as the released guide's own fill.sh prints them over the translation 492418d0a16a9d5f… (all of the seat's roots in one cut). By AI agents, Wed Nov 11 2026. No macro, syntax, notation, axiom, sorry.
-/
import Derived.Test.YtpjikgeglhjehaaChecked
import GoSem.Claim
import GoSem.ClaimJoined
import GoSem.ClaimMapViews
import Derived.JoinedTies
import Derived.KernelRfl
namespace Go.Proofs.Ytpjikgeglhjehaa
/- THE CELL 'sum', in the pinned program and in every row, IS THE sha256 OF THE DUMP (.gsa) THAT YtpjikgeglhjehaaProg.lean LOADS. Nothing in Lean hashes anything: it is a label: what it is worth is what the hold of that sum in a sandbox is worth. -/
noncomputable def Try.pinned : Pinned := { name := "ytpjikgeglhjehaa", sum := "492418d0a16a9d5f2ee9658fab9007b6e119750baed631f0de12a84e633b893e", checked := Try.checked }
namespace Rows
def none {H : Type} : Left H := { results := [], args := [] }

/-- 'laws.FnExactGoodYoung': WHATEVER THE INPUT: true; the input reads as it did. -/
def fnExactGoodYoungSpec : ChangeSpec := { name := "fnExactGoodYoung", fn := fun _ => fun
  | [d] => { results := [.lit (.bool true)], args := [d] }
  | _ => none }
def fnExactGoodYoungRow : OpenClaim := { program := "ytpjikgeglhjehaa", sum := "492418d0a16a9d5f2ee9658fab9007b6e119750baed631f0de12a84e633b893e", func := "loop.example/g00201/laws.FnExactGoodYoung", spec := "fnExactGoodYoung", unfollowed := true, recurses := true, apart := false }
def FnExactGoodYoungSaid : Prop := fnExactGoodYoungRow.holds Try.pinned (OpenSpec.ofChange fnExactGoodYoungSpec)

/-- ITS FALSE NEIGHBOUR: 'it returns false'. Refute it at one input. -/
def fnExactGoodYoungWrong : ChangeSpec := { name := "fnExactGoodYoung", fn := fun _ => fun
  | [d] => { results := [.lit (.bool false)], args := [d] }
  | _ => none }
def FnExactGoodYoungWrongFalsely : Prop := fnExactGoodYoungRow.holds Try.pinned (OpenSpec.ofChange fnExactGoodYoungWrong)

/-- 'laws.FnExactLiveIn': WHATEVER THE INPUT: true; the input reads as it did. -/
def fnExactLiveInSpec : ChangeSpec := { name := "fnExactLiveIn", fn := fun _ => fun
  | [d] => { results := [.lit (.bool true)], args := [d] }
  | _ => none }
def fnExactLiveInRow : OpenClaim := { program := "ytpjikgeglhjehaa", sum := "492418d0a16a9d5f2ee9658fab9007b6e119750baed631f0de12a84e633b893e", func := "loop.example/g00201/laws.FnExactLiveIn", spec := "fnExactLiveIn", unfollowed := true, recurses := true, apart := false }
def FnExactLiveInSaid : Prop := fnExactLiveInRow.holds Try.pinned (OpenSpec.ofChange fnExactLiveInSpec)

/-- ITS FALSE NEIGHBOUR: 'it returns false'. Refute it at one input. -/
def fnExactLiveInWrong : ChangeSpec := { name := "fnExactLiveIn", fn := fun _ => fun
  | [d] => { results := [.lit (.bool false)], args := [d] }
  | _ => none }
def FnExactLiveInWrongFalsely : Prop := fnExactLiveInRow.holds Try.pinned (OpenSpec.ofChange fnExactLiveInWrong)

/-- 'laws.FnExactFullCollect': WHATEVER THE INPUT: true; the input reads as it did. -/
def fnExactFullCollectSpec : ChangeSpec := { name := "fnExactFullCollect", fn := fun _ => fun
  | [d] => { results := [.lit (.bool true)], args := [d] }
  | _ => none }
def fnExactFullCollectRow : OpenClaim := { program := "ytpjikgeglhjehaa", sum := "492418d0a16a9d5f2ee9658fab9007b6e119750baed631f0de12a84e633b893e", func := "loop.example/g00201/laws.FnExactFullCollect", spec := "fnExactFullCollect", unfollowed := true, recurses := true, apart := false }
def FnExactFullCollectSaid : Prop := fnExactFullCollectRow.holds Try.pinned (OpenSpec.ofChange fnExactFullCollectSpec)

/-- ITS FALSE NEIGHBOUR: 'it returns false'. Refute it at one input. -/
def fnExactFullCollectWrong : ChangeSpec := { name := "fnExactFullCollect", fn := fun _ => fun
  | [d] => { results := [.lit (.bool false)], args := [d] }
  | _ => none }
def FnExactFullCollectWrongFalsely : Prop := fnExactFullCollectRow.holds Try.pinned (OpenSpec.ofChange fnExactFullCollectWrong)

/-- 'laws.FnExactYoungCollect': WHATEVER THE INPUT: true; the input reads as it did. -/
def fnExactYoungCollectSpec : ChangeSpec := { name := "fnExactYoungCollect", fn := fun _ => fun
  | [d] => { results := [.lit (.bool true)], args := [d] }
  | _ => none }
def fnExactYoungCollectRow : OpenClaim := { program := "ytpjikgeglhjehaa", sum := "492418d0a16a9d5f2ee9658fab9007b6e119750baed631f0de12a84e633b893e", func := "loop.example/g00201/laws.FnExactYoungCollect", spec := "fnExactYoungCollect", unfollowed := true, recurses := true, apart := false }
def FnExactYoungCollectSaid : Prop := fnExactYoungCollectRow.holds Try.pinned (OpenSpec.ofChange fnExactYoungCollectSpec)

/-- ITS FALSE NEIGHBOUR: 'it returns false'. Refute it at one input. -/
def fnExactYoungCollectWrong : ChangeSpec := { name := "fnExactYoungCollect", fn := fun _ => fun
  | [d] => { results := [.lit (.bool false)], args := [d] }
  | _ => none }
def FnExactYoungCollectWrongFalsely : Prop := fnExactYoungCollectRow.holds Try.pinned (OpenSpec.ofChange fnExactYoungCollectWrong)

/-- 'laws.FnExactSetPart': WHATEVER THE INPUT: true; the input reads as it did. -/
def fnExactSetPartSpec : ChangeSpec := { name := "fnExactSetPart", fn := fun _ => fun
  | [d1, d2, d3, d4] => { results := [.lit (.bool true)], args := [d1, d2, d3, d4] }
  | _ => none }
def fnExactSetPartRow : OpenClaim := { program := "ytpjikgeglhjehaa", sum := "492418d0a16a9d5f2ee9658fab9007b6e119750baed631f0de12a84e633b893e", func := "loop.example/g00201/laws.FnExactSetPart", spec := "fnExactSetPart", inPlace := ["slices.overlaps[int]"], unfollowed := true, recurses := true, apart := false }
def FnExactSetPartSaid : Prop := fnExactSetPartRow.holds Try.pinned (OpenSpec.ofChange fnExactSetPartSpec)

/-- ITS FALSE NEIGHBOUR: 'it returns false'. Refute it at one input. -/
def fnExactSetPartWrong : ChangeSpec := { name := "fnExactSetPart", fn := fun _ => fun
  | [d1, d2, d3, d4] => { results := [.lit (.bool false)], args := [d1, d2, d3, d4] }
  | _ => none }
def FnExactSetPartWrongFalsely : Prop := fnExactSetPartRow.holds Try.pinned (OpenSpec.ofChange fnExactSetPartWrong)

/- THE SECOND FORM. 'bulk': how many values and letters a reading holds, each counted each time it is reached (what is shared counts as often as it is met; a slice's spare places count too). A statement '..UptoSaid' is the law's where the arguments, and the package variables that the reading takes, are together of bulk at most 1048576: NARROWER than '..Said'. Prove '..Said' where nothing that the law and all that it calls make is longer than what came in: it says more and counts as full. Else prove '..UptoSaid'. A law counts once. -/
mutual
def uptoBulk {H : Type} : DataW H → Nat
  | .lit (.string bytes) => bytes.length + 1
  | .lit _ => 1
  | .nil => 1
  | .ptr d => uptoBulk d + 1
  | .slice elems spare => uptoBulkAll elems + uptoBulkAll spare + 1
  | .agg parts => uptoBulkAll parts + 1
  | .iface _ d => uptoBulk d + 1
  | .map entries => uptoBulkEntries entries + 1
  | .held _ => 1
def uptoBulkAll {H : Type} : List (DataW H) → Nat
  | [] => 0
  | d :: r => uptoBulk d + uptoBulkAll r
def uptoBulkEntries {H : Type} : List (Lit × DataW H) → Nat
  | [] => 0
  | x :: r => uptoBulkEntry x + uptoBulkEntries r
def uptoBulkEntry {H : Type} : Lit × DataW H → Nat
  | (.string bytes, d) => bytes.length + uptoBulk d + 1
  | (_, d) => uptoBulk d + 1
 end
def uptoSmall : (H : Type) → List (DataW H) → Bool := fun _ ds => decide (uptoBulkAll ds ≤ 1048576)
def OpenSpec.upto (s : _root_.Go.ChangeSpec) : _root_.Go.OpenSpec := { _root_.Go.OpenSpec.ofChange s with cond := some uptoSmall }

/-- 'laws.FnExactGoodYoung', WHERE WHAT IT READS IS OF BULK AT MOST 1048576: true; the input reads as it did. -/
def fnExactGoodYoungUptoRow : OpenClaim := { program := "ytpjikgeglhjehaa", sum := "492418d0a16a9d5f2ee9658fab9007b6e119750baed631f0de12a84e633b893e", func := "loop.example/g00201/laws.FnExactGoodYoung", spec := "fnExactGoodYoung", unfollowed := true, recurses := true, apart := false, narrowed := true }
def FnExactGoodYoungUptoSaid : Prop := fnExactGoodYoungUptoRow.holds Try.pinned (OpenSpec.upto fnExactGoodYoungSpec)

/-- 'laws.FnExactLiveIn', WHERE WHAT IT READS IS OF BULK AT MOST 1048576: true; the input reads as it did. -/
def fnExactLiveInUptoRow : OpenClaim := { program := "ytpjikgeglhjehaa", sum := "492418d0a16a9d5f2ee9658fab9007b6e119750baed631f0de12a84e633b893e", func := "loop.example/g00201/laws.FnExactLiveIn", spec := "fnExactLiveIn", unfollowed := true, recurses := true, apart := false, narrowed := true }
def FnExactLiveInUptoSaid : Prop := fnExactLiveInUptoRow.holds Try.pinned (OpenSpec.upto fnExactLiveInSpec)

/-- 'laws.FnExactFullCollect', WHERE WHAT IT READS IS OF BULK AT MOST 1048576: true; the input reads as it did. -/
def fnExactFullCollectUptoRow : OpenClaim := { program := "ytpjikgeglhjehaa", sum := "492418d0a16a9d5f2ee9658fab9007b6e119750baed631f0de12a84e633b893e", func := "loop.example/g00201/laws.FnExactFullCollect", spec := "fnExactFullCollect", unfollowed := true, recurses := true, apart := false, narrowed := true }
def FnExactFullCollectUptoSaid : Prop := fnExactFullCollectUptoRow.holds Try.pinned (OpenSpec.upto fnExactFullCollectSpec)

/-- 'laws.FnExactYoungCollect', WHERE WHAT IT READS IS OF BULK AT MOST 1048576: true; the input reads as it did. -/
def fnExactYoungCollectUptoRow : OpenClaim := { program := "ytpjikgeglhjehaa", sum := "492418d0a16a9d5f2ee9658fab9007b6e119750baed631f0de12a84e633b893e", func := "loop.example/g00201/laws.FnExactYoungCollect", spec := "fnExactYoungCollect", unfollowed := true, recurses := true, apart := false, narrowed := true }
def FnExactYoungCollectUptoSaid : Prop := fnExactYoungCollectUptoRow.holds Try.pinned (OpenSpec.upto fnExactYoungCollectSpec)

/-- 'laws.FnExactSetPart', WHERE WHAT IT READS IS OF BULK AT MOST 1048576: true; the input reads as it did. -/
def fnExactSetPartUptoRow : OpenClaim := { program := "ytpjikgeglhjehaa", sum := "492418d0a16a9d5f2ee9658fab9007b6e119750baed631f0de12a84e633b893e", func := "loop.example/g00201/laws.FnExactSetPart", spec := "fnExactSetPart", inPlace := ["slices.overlaps[int]"], unfollowed := true, recurses := true, apart := false, narrowed := true }
def FnExactSetPartUptoSaid : Prop := fnExactSetPartUptoRow.holds Try.pinned (OpenSpec.upto fnExactSetPartSpec)

end Rows
end Go.Proofs.Ytpjikgeglhjehaa
